/-
  (*Tree).List of any path.
-/
import Derived.Test.YtjhojohjegkinaaGreatDoorTextA
import Derived.Test.YtjhojohjegkinaaGreatDoorStatF
import Derived.Test.YtjhojohjegkinaaGreatDoorBothA
namespace Go.Proofs.YtjhojohjegkinaaGreatDoor
open Go Go.RowKit

theorem owns_low {w : World} {base base' n : Nat} {e : TypeId} {size : Nat} {v : Value} {xs : List Value} (h : w.ownsRow base e size v n xs) (hb : base' ≤ base) : w.ownsRow base' e size v n xs := by
  refine ⟨h.1, ?_⟩
  rcases h.2 with h1 | ⟨g, cap, cur, h1, h2, h3⟩
  · exact .inl h1
  · exact .inr ⟨g, cap, cur, h1, Nat.le_trans hb h2, h3⟩


/-- List's answer: the code, or the names, rising. -/
def LAns (E : Nat → Addr) (w : World) (c : Nat) (ss : List (List UInt8)) (e : Ending) (w' : World) : Prop :=
  (c ≠ 0 ∧ ∃ a, e = .returned (.tuple #[.slice none 0 0, failV a]) ∧ Failed E w.heap.size w' a c ∧ Below w.heap.size w w') ∨
  (c = 0 ∧ ∃ v, e = .returned (.tuple #[v, .nilIface]) ∧ w'.ownsRow w.heap.size 9 1 v ss.length (ss.map encStr) ∧ Below w.heap.size w w')

set_option maxRecDepth 100000 in
set_option maxHeartbeats 1000000 in
theorem list_err {E : Nat → Addr} {B : Nat} {T : Tr} (p : ByteArray) (w : World) (hE : Ctx E B w) (hR : Rep B w T) (hsz : p.size ≤ 9223372036854775807) (c : Nat) (hf : T.find p = .error c) (ss : List (List UInt8)) :
    Calls Tryz.prog 22 #[.pointer (some ⟨T.tb, 0, none⟩), .string p] w fun e w' => LAns E w c ss e w' := by
  have HF := find_any p w hE hR hsz
  rw [hf] at HF
  have HC : Hid (Calls Tryz.prog 67 #[.pointer (some ⟨T.tb, 0, none⟩), .string p] w fun e w' => FindPost E w (.error c) e w') := HF
  have HCN : Hid (c ≠ 0) := by
    show c ≠ 0
    rcases find_err_ne hf with h | h <;> omega
  clear HF hE hR hf
  go_enter Tryz.func22, Tryz.ntmps22
  go_wp2_with fail
  refine HC.out.mono ?_
  rintro e w1 ⟨hb, a, rfl, hfl⟩
  have HB : Hid (Below w.heap.size w w1) := hb
  have HFL : Hid (Failed E w.heap.size w1 a c) := hfl
  clear hb hfl
  simp only [spotV, spot0, ptrV_none]
  go_wp2_with fail
  go_ret2
  exact .inl ⟨HCN.out, a, rfl, HFL.out.below (below_alloc w1 _), below_trans HB.out (below_alloc w1 _)⟩

set_option maxRecDepth 100000 in
set_option maxHeartbeats 1000000 in
theorem list_none {E : Nat → Addr} {B : Nat} {T : Tr} (p : ByteArray) (w : World) (hE : Ctx E B w) (hR : Rep B w T) (hsz : p.size ≤ 9223372036854775807) (s : Spot) (hf : T.find p = .ok s) (hk : s.n = none) (ss : List (List UInt8)) :
    Calls Tryz.prog 22 #[.pointer (some ⟨T.tb, 0, none⟩), .string p] w fun e w' => LAns E w 16 ss e w' := by
  have HF := find_any p w hE hR hsz
  rw [hf] at HF
  have HC : Hid (Calls Tryz.prog 67 #[.pointer (some ⟨T.tb, 0, none⟩), .string p] w fun e w' => FindPost E w (.ok s) e w') := HF
  have HE := Lib.hid hE
  have HCN : Hid ((16 : Nat) ≠ 0) := Lib.hid (by decide)
  clear HF hE hR hf
  obtain ⟨inn, nm, nn⟩ := s
  have hk' : nn = none := hk
  subst hk'
  clear hk
  go_enter Tryz.func22, Tryz.ntmps22
  go_wp2_with fail
  refine HC.out.mono ?_
  rintro e w1 ⟨hb, rfl⟩
  have HB : Hid (Below w.heap.size w w1) := hb
  clear hb
  simp only [spotV, ptrV_none]
  unfold ptrV
  generalize inn.map (fun b => (⟨b, 0, none⟩ : Addr)) = ia
  go_wp2_with fail
  have HB1 := Lib.hid (fun o => below_trans HB.out (below_alloc w1 o))
  refine (tree_fail _ (HE.out.env.below (HB1.out _)) 16 (by unfold Used; omega)).mono ?_
  rintro e w2 ⟨a, rfl, hfl, hb2⟩
  have HFL := Lib.hid (hfl.mono (HB1.out _).size)
  have HB2 := Lib.hid (below_trans (HB1.out _) hb2)
  clear hfl hb2
  go_wp2_with fail
  go_ret2
  exact .inl ⟨HCN.out, a, rfl, HFL.out, HB2.out⟩

set_option maxRecDepth 100000 in
set_option maxHeartbeats 1000000 in
theorem list_file {E : Nat → Addr} {B : Nat} {T : Tr} (p : ByteArray) (w : World) (hE : Ctx E B w) (hR : Rep B w T) (hsz : p.size ≤ 9223372036854775807) (s : Spot) (hf : T.find p = .ok s) (k : Nat) (hk : s.n = some k) (d : Nd) (hd : T.nd k = some d) (hdir : d.dir = false) (ss : List (List UInt8)) :
    Calls Tryz.prog 22 #[.pointer (some ⟨T.tb, 0, none⟩), .string p] w fun e w' => LAns E w 16 ss e w' := by
  have HF := find_any p w hE hR hsz
  rw [hf] at HF
  have HC : Hid (Calls Tryz.prog 67 #[.pointer (some ⟨T.tb, 0, none⟩), .string p] w fun e w' => FindPost E w (.ok s) e w') := HF
  have HE := Lib.hid hE
  have HR := Lib.hid hR
  have HDK := Lib.hid hd
  have HDIR := Lib.hid hdir
  have HCN : Hid ((16 : Nat) ≠ 0) := Lib.hid (by decide)
  clear HF hE hR hf hd hdir
  obtain ⟨inn, nm, nn⟩ := s
  have hk' : nn = some k := hk
  subst hk'
  clear hk
  go_enter Tryz.func22, Tryz.ntmps22
  go_wp2_with fail
  refine HC.out.mono ?_
  rintro e w1 ⟨hb, rfl⟩
  have HB : Hid (Below w.heap.size w w1) := hb
  clear hb
  simp only [spotV, ptrV_some]
  unfold ptrV
  generalize inn.map (fun b => (⟨b, 0, none⟩ : Addr)) = ia
  obtain ⟨w3, hw3⟩ : ∃ w3, w3 = w1.alloc (.cells #[.pointer ia, .string nm, .pointer (some ⟨k, 0, none⟩)] 135) := ⟨_, rfl⟩
  have HW3 := Lib.hid hw3
  have HB3 : Hid (Below w.heap.size w w3) := by rw [hw3]; exact HB.out.alloc HB.out.size _
  have HS3 : Hid (w3.heap[w1.heap.size]? = some (.cells #[.pointer ia, .string nm, .pointer (some ⟨k, 0, none⟩)] 135 (0, 0))) := by rw [hw3]; exact heap_alloc_new w1 _
  clear hw3
  go_upto_region 2 with fail
  rw [← HW3.out]
  clear HW3 HB
  generalize w1.heap.size = sb at *
  have HRP := Lib.hid (HR.out.below HB3.out)
  have HNK := Lib.hid (HRP.out.node k d HDK.out)
  have s2 := cell_of (o := 2) HS3.out rfl
  have k0 : w3.cell? ⟨k, 0, none⟩ = some (.bool false) := by
    have h1 : w3.cell? ⟨k, 0, none⟩ = some (.bool d.dir) := cell_of HNK.out.cells rfl
    rw [h1, HDIR.out]
  go_wp2_with fail
  refine (tree_fail _ (HE.out.env.below HB3.out) 16 (by unfold Used; omega)).mono ?_
  rintro e w4 ⟨a, rfl, hfl, hb4⟩
  have HFL := Lib.hid (hfl.mono HB3.out.size)
  have HB4 := Lib.hid (below_trans HB3.out hb4)
  clear hfl hb4
  go_wp2_with fail
  go_ret2
  exact .inl ⟨HCN.out, a, rfl, HFL.out, HB4.out⟩

set_option maxRecDepth 100000 in
set_option maxHeartbeats 1000000 in
theorem list_dir {E : Nat → Addr} {B : Nat} {T : Tr} (p : ByteArray) (w : World) (hE : Ctx E B w) (hR : Rep B w T) (hsz : p.size ≤ 9223372036854775807) (s : Spot) (hf : T.find p = .ok s) (k : Nat) (hk : s.n = some k) (d : Nd) (hd : T.nd k = some d) (hdir : d.dir = true)
    (hn : d.names.length ≤ 1000000000) (hs : ∀ q ∈ d.names, q.1.size ≤ 140737488355328) :
    Calls Tryz.prog 22 #[.pointer (some ⟨T.tb, 0, none⟩), .string p] w fun e w' => LAns E w 0 (sortedNames d.names) e w' := by
  have HF := find_any p w hE hR hsz
  rw [hf] at HF
  have HC : Hid (Calls Tryz.prog 67 #[.pointer (some ⟨T.tb, 0, none⟩), .string p] w fun e w' => FindPost E w (.ok s) e w') := HF
  have HR := Lib.hid hR
  have HDK := Lib.hid hd
  have HDIR := Lib.hid hdir
  have HNN := Lib.hid hn
  have HNS := Lib.hid hs
  clear HF hE hR hf hd hdir hn hs
  obtain ⟨inn, nm, nn⟩ := s
  have hk' : nn = some k := hk
  subst hk'
  clear hk
  go_enter Tryz.func22, Tryz.ntmps22
  go_wp2_with fail
  refine HC.out.mono ?_
  rintro e w1 ⟨hb, rfl⟩
  have HB : Hid (Below w.heap.size w w1) := hb
  clear hb
  simp only [spotV, ptrV_some]
  unfold ptrV
  generalize inn.map (fun b => (⟨b, 0, none⟩ : Addr)) = ia
  obtain ⟨w3, hw3⟩ : ∃ w3, w3 = w1.alloc (.cells #[.pointer ia, .string nm, .pointer (some ⟨k, 0, none⟩)] 135) := ⟨_, rfl⟩
  have HW3 := Lib.hid hw3
  have HB3 : Hid (Below w.heap.size w w3) := by rw [hw3]; exact HB.out.alloc HB.out.size _
  have HS3 : Hid (w3.heap[w1.heap.size]? = some (.cells #[.pointer ia, .string nm, .pointer (some ⟨k, 0, none⟩)] 135 (0, 0))) := by rw [hw3]; exact heap_alloc_new w1 _
  clear hw3
  go_upto_region 2 with fail
  rw [← HW3.out]
  clear HW3 HB
  generalize w1.heap.size = sb at *
  have HRP := Lib.hid (HR.out.below HB3.out)
  have HNK := Lib.hid (HRP.out.node k d HDK.out)
  have s2 := cell_of (o := 2) HS3.out rfl
  have k0 : w3.cell? ⟨k, 0, none⟩ = some (.bool true) := by
    have h1 : w3.cell? ⟨k, 0, none⟩ = some (.bool d.dir) := cell_of HNK.out.cells rfl
    rw [h1, HDIR.out]
  have k2 := cell_of (o := 2) HNK.out.cells rfl
  go_wp2_with fail
  refine (keys_node d _).mono ?_
  rintro e w6 ⟨rfl, rfl⟩
  go_wp2_with fail
  refine (sorted_node HNK.out HNN.out HNS.out).mono ?_
  rintro e w7 ⟨v, rfl, hrow, hb7⟩
  obtain ⟨va, vc, rfl⟩ := owns_form hrow
  have HB7 := Lib.hid (below_trans HB3.out (below_trans (below_alloc _ _) hb7))
  have HOW : Hid (w7.ownsRow w.heap.size 9 1 (.slice va (sortedNames d.names).length vc) (sortedNames d.names).length ((sortedNames d.names).map encStr)) := by
    have h1 := HB3.out.size
    have h2 := (below_alloc w3 (.cells #[mapV d] 124)).size
    show w7.ownsRow _ _ _ _ _ _
    exact owns_low hrow (by omega)
  clear hrow hb7 k2 k0 s2 HNK HRP HS3
  go_wp2_with fail
  go_ret2
  exact .inr ⟨rfl, _, rfl, HOW.out, HB7.out⟩

/-! ### of any path -/
def Tr.cList (T : Tr) (p : ByteArray) : Nat := match T.find p with
  | .error c => c
  | .ok s => match s.n with
    | none => 16
    | some k => match T.nd k with
      | none => 16
      | some d => if d.dir then 0 else 16
def Tr.lNames (T : Tr) (p : ByteArray) : List (List UInt8) := match T.find p with
  | .error _ => []
  | .ok s => match s.n with
    | none => []
    | some k => match T.nd k with
      | none => []
      | some d => if d.dir then sortedNames d.names else []
theorem list_any {E : Nat → Addr} {B : Nat} {T : Tr} (p : ByteArray) (w : World) (hE : Ctx E B w) (hR : Rep B w T) (hI : TI T) {m : Int} (hM : TM T m) (hm : m ≤ 1000000) (hsz : p.size ≤ 9223372036854775807) :
    Calls Tryz.prog 22 #[.pointer (some ⟨T.tb, 0, none⟩), .string p] w fun e w' => LAns E w (T.cList p) (T.lNames p) e w' := by
  unfold Tr.cList Tr.lNames
  cases hf : T.find p with
  | error c => exact list_err p w hE hR hsz c hf _
  | ok s =>
    dsimp only
    cases hn : s.n with
    | none => exact list_none p w hE hR hsz s hf hn _
    | some k =>
      dsimp only
      obtain ⟨l, _, ha, _⟩ := find_ok hf
      rw [hn] at ha
      obtain ⟨d, hd⟩ := hI.tw.there ha
      rw [hd]
      dsimp only
      cases hdir : d.dir with
      | true =>
        rw [if_pos rfl, if_pos rfl]
        refine list_dir p w hE hR hsz s hf k hn d hd hdir ?_ (fun q hq => ?_)
        · have h1 := (hI.num k d hd).2.2
          have h2 := hM.clk1
          omega
        · have := (hI.tw.part k d q.1 q.2 hd hq).2
          omega
      | false =>
        rw [if_neg (by decide), if_neg (by decide)]
        exact list_file p w hE hR hsz s hf k hn d hd hdir _
end Go.Proofs.YtjhojohjegkinaaGreatDoor
