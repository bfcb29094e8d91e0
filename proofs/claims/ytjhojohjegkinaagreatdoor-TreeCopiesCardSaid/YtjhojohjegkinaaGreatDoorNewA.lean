/-
  tree.New, kern.New: their contracts.
  (*Tree).file, Read, Open, Temp, Now: their contracts.
  A kern's Open, of a file that there wasn't.
  Tree.Read of a file that is there.
-/
import Derived.Test.YtjhojohjegkinaaGreatDoorKernA
import Derived.Lib.Hide
namespace Go.Proofs.YtjhojohjegkinaaGreatDoor
open Go Go.RowKit

section
/-- A tree of a root alone. -/
def newTr (tb root mb : Nat) : Tr := { tb := tb, root := root, clock := 0, count := 1, nd := fun n => if n = root then some { dir := true, bv := .slice none 0 0, data := [], names := [], mb := mb, links := 0, tick := 0 } else none }

theorem newTr_nd {tb root mb n : Nat} {d : Nd} (h : (newTr tb root mb).nd n = some d) : n = root ∧ d = { dir := true, bv := .slice none 0 0, data := [], names := [], mb := mb, links := 0, tick := 0 } := by
  unfold newTr at h
  by_cases hn : n = root
  · simp only [hn, if_true] at h
    exact ⟨hn, (Option.some.inj h).symm⟩
  · simp only [hn, if_false] at h
    cases h
theorem newTr_root (tb root mb : Nat) : (newTr tb root mb).nd root = some { dir := true, bv := .slice none 0 0, data := [], names := [], mb := mb, links := 0, tick := 0 } := by simp [newTr]

theorem newTr_rep {B : Nat} {w : World} {tb root mb : Nat} (h1 : w.heap[tb]? = some (.cells #[ptrV (some root), .int .i64 0, .int .i64 1] 133 (0, 0)))
    (h2 : w.heap[root]? = some (.cells #[.bool true, .slice none 0 0, .map (some mb), .int .i64 0, .int .i64 0] 126 (0, 0))) (h3 : w.heap[mb]? = some (.map #[] 0)) (b1 : B ≤ tb) (b2 : B ≤ root) (b3 : B ≤ mb) : Rep B w (newTr tb root mb) where
  low b hb := by
    rcases hb with rfl | ⟨d, hd⟩ | ⟨n, d, hn, h⟩
    · exact b1
    · obtain ⟨rfl, _⟩ := newTr_nd hd; exact b2
    · obtain ⟨rfl, rfl⟩ := newTr_nd hn
      rcases h with ⟨_, rfl⟩ | h
      · exact b3
      · cases h
  tree := h1
  node n d hn := by
    obtain ⟨rfl, rfl⟩ := newTr_nd hn
    exact ⟨h2, World.ownsRow_nil _ _ _ _, fun _ => ⟨#[], 0, h3, rfl, MapKept.stamped_empty 0⟩, fun h => by cases h⟩
  maps n d n' d' hn hn' _ _ _ := by
    obtain ⟨rfl, _⟩ := newTr_nd hn
    obtain ⟨rfl, _⟩ := newTr_nd hn'
    rfl
  rows n d n' d' b hn hn' hb _ := by
    obtain ⟨rfl, rfl⟩ := newTr_nd hn
    cases hb
  root := ⟨_, newTr_root tb root mb, rfl⟩
  kids n d s k hn hk := by
    obtain ⟨rfl, rfl⟩ := newTr_nd hn
    cases hk


/-- What tree.New leaves. -/
def NewPost (w : World) (e : Ending) (w' : World) : Prop :=
  e = .returned (.pointer (some ⟨w.heap.size + 2, 0, none⟩)) ∧ (∀ B, B ≤ w.heap.size → Rep B w' (newTr (w.heap.size + 2) (w.heap.size + 1) w.heap.size)) ∧ Below w.heap.size w w' ∧ w'.heap.size = w.heap.size + 3

theorem newW_post (w : World) : NewPost w (.returned (.pointer (some ⟨w.heap.size + 2, 0, none⟩)))
    (((w.alloc (.map #[] 0)).alloc (.cells #[.bool true, .slice none 0 0, .map (some w.heap.size), .int .i64 0, .int .i64 0] 126)).alloc (.cells #[.pointer (some ⟨w.heap.size + 1, 0, none⟩), .int .i64 0, .int .i64 1] 133)) := by
  refine ⟨rfl, fun B hB => newTr_rep ?_ ?_ ?_ (by omega) (by omega) hB, below_trans (below_two w _ _) (below_alloc _ _), by simp⟩
  · have h := heap_alloc_new ((w.alloc (.map #[] 0)).alloc (.cells #[.bool true, .slice none 0 0, .map (some w.heap.size), .int .i64 0, .int .i64 0] 126)) (.cells #[.pointer (some ⟨w.heap.size + 1, 0, none⟩), .int .i64 0, .int .i64 1] 133)
    simpa [ptrV] using h
  · rw [Below.heap_alloc _ _ _ (by simp)]
    have h := heap_alloc_new (w.alloc (.map #[] 0)) (.cells #[.bool true, .slice none 0 0, .map (some w.heap.size), .int .i64 0, .int .i64 0] 126)
    simpa using h
  · rw [Below.heap_alloc _ _ _ (by simp; omega), Below.heap_alloc _ _ _ (by simp)]
    exact heap_alloc_new w _

set_option maxHeartbeats 400000 in
theorem tree_new (w : World) : Calls Tryz.prog 34 #[] w fun e w' => NewPost w e w' := by
  have hmm := @Go.RowKit.run_makeMap Tryz.prog
  have H : Hid (NewPost w (.returned (.pointer (some ⟨w.heap.size + 2, 0, none⟩)))
    (((w.alloc (.map #[] 0)).alloc (.cells #[.bool true, .slice none 0 0, .map (some w.heap.size), .int .i64 0, .int .i64 0] 126)).alloc (.cells #[.pointer (some ⟨w.heap.size + 1, 0, none⟩), .int .i64 0, .int .i64 1] 133))) := newW_post w
  go_enter Tryz.func34, Tryz.ntmps34
  go_wp2_with fail
  go_ret
  exact H.out








section
attribute [local go_sem ↓] ap_rule


end
end

section
/-- The file that a path leads to, plainly. -/
def Tr.fileOf (T : Tr) (p : ByteArray) : Except Nat Nat :=
  match T.find p with
  | .error c => .error c
  | .ok s => match s.n with
    | none => .error 16
    | some k => match T.nd k with
      | none => .error 16
      | some d => if d.dir then .error 17 else .ok k

theorem find_nd {B : Nat} {w : World} {T : Tr} (hR : Rep B w T) {p : ByteArray} {s : Spot} (h : T.find p = .ok s) {k : Nat} (hk : s.n = some k) : ∃ d, T.nd k = some d := by
  rcases find_form h with rfl | ⟨i, d, h1, h2, h3, h4⟩
  · obtain ⟨d, hd, _⟩ := hR.root
    have : T.start.n = some T.root := rfl
    rw [this] at hk
    obtain rfl := Option.some.inj hk
    exact ⟨d, hd⟩
  · rw [hk] at h4
    exact hR.kids i d s.name k h2 (look_mem h4.symm)

/-- What file leaves. -/
def FilePost (E : Nat → Addr) (w : World) (r : Except Nat Nat) (e : Ending) (w' : World) : Prop :=
  match r with
  | .error c => PutNo E w c e w'
  | .ok k => e = .returned (.tuple #[.pointer (some ⟨k, 0, none⟩), .nilIface]) ∧ Below w.heap.size w w'

set_option maxRecDepth 100000 in
set_option maxHeartbeats 1000000 in
theorem tree_file {E : Nat → Addr} {B : Nat} {T : Tr} (p : ByteArray) (w : World) (hE : Ctx E B w) (hR : Rep B w T) (hsz : p.size ≤ 9223372036854775807) :
    Calls Tryz.prog 71 #[.pointer (some ⟨T.tb, 0, none⟩), .string p] w fun e w' => FilePost E w (T.fileOf p) e w' := by
  have HF := find_any p w hE hR hsz
  have HE : Hid (Ctx E B w) := hE
  have HR : Hid (Rep B w T) := hR
  clear hE hR
  unfold Tr.fileOf
  cases hf : T.find p with
  | error c =>
    rw [hf] at HF
    have HC : Hid (Calls Tryz.prog 67 #[.pointer (some ⟨T.tb, 0, none⟩), .string p] w fun e w' => FindPost E w (.error c) e w') := HF
    clear HF hf
    show Calls _ _ _ _ fun e w' => PutNo E w c e w'
    go_enter Tryz.func71, Tryz.ntmps71
    go_wp2_with fail
    refine HC.out.mono ?_
    rintro e w1 ⟨hb, a, rfl, hfl⟩
    have HB : Hid (Below w.heap.size w w1) := hb
    have HFL : Hid (Failed E w.heap.size w1 a c) := hfl
    clear hb hfl
    simp only [spotV, spot0, ptrV_none]
    go_wp2_with fail
    go_ret2
    exact ⟨a, rfl, HFL.out.below (below_alloc w1 _), below_trans HB.out (below_alloc w1 _)⟩
  | ok s =>
    rw [hf] at HF
    have HC : Hid (Calls Tryz.prog 67 #[.pointer (some ⟨T.tb, 0, none⟩), .string p] w fun e w' => FindPost E w (.ok s) e w') := HF
    have HND : Hid (∀ k, s.n = some k → ∃ d, T.nd k = some d) := fun k hk => find_nd HR.out hf hk
    clear HF hf
    obtain ⟨inn, nm, nn⟩ := s
    cases nn with
    | none =>
      show Calls _ _ _ _ fun e w' => PutNo E w 16 e w'
      go_enter Tryz.func71, Tryz.ntmps71
      go_wp2_with fail
      refine HC.out.mono ?_
      rintro e w1 ⟨hb, rfl⟩
      have HB : Hid (Below w.heap.size w w1) := hb
      clear hb
      simp only [spotV, ptrV_none]
      unfold ptrV
      generalize inn.map (fun b => (⟨b, 0, none⟩ : Addr)) = ia
      go_wp2_with fail
      refine (tree_fail _ (HE.out.env.below (below_trans HB.out (below_alloc w1 _))) 16 (by unfold Used; omega)).mono ?_
      rintro e w2 ⟨a, rfl, hfail, hb2⟩
      have HF : Hid (PutNo E w 16 (.returned (.tuple #[.pointer none, failV a])) w2) :=
        ⟨a, rfl, hfail.mono (below_trans HB.out (below_alloc w1 _)).size, below_trans (below_trans HB.out (below_alloc w1 _)) hb2⟩
      clear hfail hb2
      go_wp2_with fail
      go_ret2
      exact HF.out
    | some k =>
      obtain ⟨d, hd⟩ := HND.out k rfl
      have HD : Hid (T.nd k = some d) := hd
      have HKL : Hid (k < w.heap.size) := HR.out.node_lt hd
      cases hdir : d.dir with
      | true =>
        have eR : (match ((⟨inn, nm, some k⟩ : Spot).n : Option Nat) with | none => (.error 16 : Except Nat Nat) | some k => match T.nd k with | none => .error 16 | some d => if d.dir then .error 17 else .ok k) = .error 17 := by
          simp only [hd, hdir, if_true]
        show Calls _ _ _ _ fun e w' => FilePost E w (match ((⟨inn, nm, some k⟩ : Spot).n : Option Nat) with | none => (.error 16 : Except Nat Nat) | some k => match T.nd k with | none => .error 16 | some d => if d.dir then .error 17 else .ok k) e w'
        rw [eR]
        show Calls _ _ _ _ fun e w' => PutNo E w 17 e w'
        have HDIR : Hid (d.dir = true) := hdir
        clear eR hd hdir
        go_enter Tryz.func71, Tryz.ntmps71
        go_wp2_with fail
        refine HC.out.mono ?_
        rintro e w1 ⟨hb, rfl⟩
        have HB : Hid (Below w.heap.size w w1) := hb
        have HRP : Hid (Rep B w1 T) := HR.out.below HB.out
        clear hb
        simp only [spotV, ptrV_some]
        have hc0 : w1.cell? ⟨k, 0, none⟩ = some (.bool true) := by rw [← HDIR.out]; exact cell_of (HRP.out.node k d HD.out).cells rfl
        have hkl : k < w1.heap.size := HRP.out.node_lt HD.out
        unfold ptrV
        generalize inn.map (fun b => (⟨b, 0, none⟩ : Addr)) = ia
        go_wp2_with fail
        refine (tree_fail _ (HE.out.env.below (below_trans HB.out (below_alloc w1 _))) 17 (by unfold Used; omega)).mono ?_
        rintro e w2 ⟨a, rfl, hfail, hb2⟩
        have HF : Hid (PutNo E w 17 (.returned (.tuple #[.pointer none, failV a])) w2) :=
          ⟨a, rfl, hfail.mono (below_trans HB.out (below_alloc w1 _)).size, below_trans (below_trans HB.out (below_alloc w1 _)) hb2⟩
        clear hfail hb2
        go_wp2_with fail
        go_ret2
        exact HF.out
      | false =>
        have eR : (match ((⟨inn, nm, some k⟩ : Spot).n : Option Nat) with | none => (.error 16 : Except Nat Nat) | some k => match T.nd k with | none => .error 16 | some d => if d.dir then .error 17 else .ok k) = .ok k := by
          simp only [hd, hdir, Bool.false_eq_true, if_false]
        show Calls _ _ _ _ fun e w' => FilePost E w (match ((⟨inn, nm, some k⟩ : Spot).n : Option Nat) with | none => (.error 16 : Except Nat Nat) | some k => match T.nd k with | none => .error 16 | some d => if d.dir then .error 17 else .ok k) e w'
        rw [eR]
        have HDIR : Hid (d.dir = false) := hdir
        clear eR hd hdir
        go_enter Tryz.func71, Tryz.ntmps71
        go_wp2_with fail
        refine HC.out.mono ?_
        rintro e w1 ⟨hb, rfl⟩
        have HB : Hid (Below w.heap.size w w1) := hb
        have HRP : Hid (Rep B w1 T) := HR.out.below HB.out
        clear hb
        simp only [spotV, ptrV_some]
        have hc0 : w1.cell? ⟨k, 0, none⟩ = some (.bool false) := by rw [← HDIR.out]; exact cell_of (HRP.out.node k d HD.out).cells rfl
        have hkl : k < w1.heap.size := HRP.out.node_lt HD.out
        unfold ptrV
        generalize inn.map (fun b => (⟨b, 0, none⟩ : Addr)) = ia
        go_wp2_with fail
        go_ret2
        exact ⟨rfl, below_trans HB.out (below_alloc w1 _)⟩

theorem tree_now (tb : Nat) (r c : Value) (clock : Int) (w : World) (h : w.heap[tb]? = some (.cells #[r, .int .i64 clock, c] 133 (0, 0))) :
    Calls Tryz.prog 15 #[.pointer (some ⟨tb, 0, none⟩)] w fun e w' => e = .returned (.int .i64 clock) ∧ w' = w := by
  have h1 : w.cell? ⟨tb, 1, none⟩ = some (.int .i64 clock) := cell_of h rfl
  clear h
  go_enter Tryz.func15, Tryz.ntmps15
  go_wp2
  go_ret
  exact ⟨rfl, rfl⟩

/-- What Open leaves where it opens: a tree.File over node k. -/
def OpenFile (tb : Nat) (k : Nat) (w' : World) (f : Nat) : Prop := w'.heap[f]? = some (.cells #[.pointer (some ⟨k, 0, none⟩), .pointer (some ⟨tb, 0, none⟩)] 169 (0, 0))

/-- Open to write, the file made anew. -/
def OpenNew (B : Nat) (w : World) (T : Tr) (i : Nat) (di : Nd) (nm : ByteArray) (e : Ending) (w' : World) : Prop :=
  ∃ k bv f, e = .returned (.tuple #[.pointer (some ⟨f, 0, none⟩), .nilIface]) ∧ w.heap.size ≤ k ∧ w.heap.size ≤ f ∧ OpenFile T.tb k w' f ∧ Rep B w' (T.newFile i di nm k bv []) ∧ Kept T.foot w w' ∧ (∀ x, (T.newFile i di nm k bv []).foot x → (T.foot x ∨ w.heap.size ≤ x) ∧ x ≠ f)

set_option maxRecDepth 100000 in
set_option maxHeartbeats 1000000 in
theorem open_new {E : Nat → Addr} {B : Nat} {T : Tr} (p : ByteArray) (way : Int) (hway : way = 1 ∨ way = 2) (w : World) (hE : Ctx E B w) (hR : Rep B w T) (hsz : p.size ≤ 9223372036854775807) (s : Spot) (hf : T.find p = .ok s)
    (hk : s.n = none) (hfull : T.count < 200) (hcnt : 0 ≤ T.count) (hck0 : 0 ≤ T.clock) (hck : T.clock ≤ 1152921504606846976)
    (i : Nat) (di : Nd) (hi : s.inn = some i) (hdi : T.nd i = some di) (hdir : di.dir = true) (hlk : look di.names s.name = none) :
    Calls Tryz.prog 41 #[.pointer (some ⟨T.tb, 0, none⟩), .string p, .int .i64 way] w fun e w' => OpenNew B w T i di s.name e w' := by
  have HP : Hid (∀ add, Calls Tryz.prog 69 #[.pointer (some ⟨T.tb, 0, none⟩), .string p, .slice none 0 0, .bool add] w fun e w' => PutNew B w T i di s.name [] e w') :=
    fun add => put_new p (.slice none 0 0) [] add w hE hR hsz s hf hk hfull hcnt hck0 hck (Src.nil w) (fun x hx => by cases hx) (by simp) i di hi hdi hdir hlk
  clear hE hR hf hk hi hdi hdir hlk hfull hcnt hck0 hck
  have key : ∀ (k : Nat) (bv : Value) (w1 : World), w.heap.size ≤ k → Rep B w1 (T.newFile i di s.name k bv []) → Kept T.foot w w1 → (∀ x, (T.newFile i di s.name k bv []).foot x → T.foot x ∨ w.heap.size ≤ x) →
      OpenNew B w T i di s.name (.returned (.tuple #[.pointer (some ⟨w1.heap.size, 0, none⟩), .nilIface])) (w1.alloc (.cells #[.pointer (some ⟨k, 0, none⟩), .pointer (some ⟨T.tb, 0, none⟩)] 169)) :=
    fun k bv w1 h1 h2 h3 h4 => ⟨k, bv, w1.heap.size, rfl, h1, h3.size, heap_alloc_new w1 _, h2.below (below_alloc _ _), h3.alloc _, fun x hx => ⟨h4 x hx, Nat.ne_of_lt (h2.lt hx)⟩⟩
  have KEY : Hid _ := key
  clear key
  rcases hway with rfl | rfl
  · go_enter Tryz.func41, Tryz.ntmps41
    go_wp2_with fail
    refine (HP.out _).mono ?_
    rintro e w1 ⟨k, bv, rfl, h1, h2, h3, h4⟩
    have HX : Hid (OpenNew B w T i di s.name (.returned (.tuple #[.pointer (some ⟨w1.heap.size, 0, none⟩), .nilIface])) (w1.alloc (.cells #[.pointer (some ⟨k, 0, none⟩), .pointer (some ⟨T.tb, 0, none⟩)] 169))) := KEY.out k bv w1 h1 h2 h3 h4
    clear h1 h2 h3 h4
    go_wp2_with fail
    go_ret2
    exact HX.out
  · go_enter Tryz.func41, Tryz.ntmps41
    go_wp2_with fail
    refine (HP.out _).mono ?_
    rintro e w1 ⟨k, bv, rfl, h1, h2, h3, h4⟩
    have HX : Hid (OpenNew B w T i di s.name (.returned (.tuple #[.pointer (some ⟨w1.heap.size, 0, none⟩), .nilIface])) (w1.alloc (.cells #[.pointer (some ⟨k, 0, none⟩), .pointer (some ⟨T.tb, 0, none⟩)] 169))) := KEY.out k bv w1 h1 h2 h3 h4
    clear h1 h2 h3 h4
    go_wp2_with fail
    go_ret2
    exact HX.out
end

section
def setFl (fl : Nat → Option Fl) (b : Nat) (f : Fl) : Nat → Option Fl := fun x => if x = b then some f else fl x





end

section

end
end Go.Proofs.YtjhojohjegkinaaGreatDoor
