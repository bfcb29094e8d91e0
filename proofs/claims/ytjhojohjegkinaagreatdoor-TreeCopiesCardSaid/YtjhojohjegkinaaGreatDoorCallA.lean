/-
  (*Tree).Mkdir: its contracts.
  What a call leaves of the program's tree that turns nodes and maps and makes none (Link, Remove).
  The program's Remove: its refusals.
  The program's tree with a name less.
  The program's Link: its refusals.
-/
import Derived.Test.YtjhojohjegkinaaGreatDoorPutA
import Derived.Lib.Hide
import Derived.WideLaws
import Derived.Deep.DeepCutAuto
import Derived.Test.YtjhojohjegkinaaGreatDoorNewA
namespace Go.Proofs.YtjhojohjegkinaaGreatDoor
open Go Go.RowKit

section
/-- The tree with one node more, below a name. -/
def Tr.newNode (T : Tr) (i : Nat) (di : Nd) (nm : ByteArray) (k : Nat) (dk : Nd) : Tr :=
  ((T.tick 1).set i { di with names := di.names ++ [(nm, k)], tick := T.clock + 1 }).set k dk

section
variable {T : Tr} {i : Nat} {di : Nd} {nm : ByteArray} {k : Nat} {dk : Nd}
theorem newNode_k : (T.newNode i di nm k dk).nd k = some dk := by simp [Tr.newNode, Tr.set]
theorem newNode_i (h : i ≠ k) : (T.newNode i di nm k dk).nd i = some { di with names := di.names ++ [(nm, k)], tick := T.clock + 1 } := by simp [Tr.newNode, Tr.set, h]
theorem newNode_other {n : Nat} (h : n ≠ i) (h' : n ≠ k) : (T.newNode i di nm k dk).nd n = T.nd n := by simp [Tr.newNode, Tr.set, Tr.tick, h, h']
theorem newNode_cases (hik : i ≠ k) {n : Nat} {d : Nd} (h : (T.newNode i di nm k dk).nd n = some d) :
    (n = k ∧ d = dk) ∨ (n = i ∧ n ≠ k ∧ d = { di with names := di.names ++ [(nm, k)], tick := T.clock + 1 }) ∨ (n ≠ i ∧ n ≠ k ∧ T.nd n = some d) := by
  by_cases h1 : n = k
  · subst h1
    rw [newNode_k] at h
    exact .inl ⟨rfl, (Option.some.inj h).symm⟩
  · by_cases h2 : n = i
    · subst h2
      rw [newNode_i hik] at h
      exact .inr (.inl ⟨rfl, h1, (Option.some.inj h).symm⟩)
    · rw [newNode_other h2 h1] at h
      exact .inr (.inr ⟨h2, h1, h⟩)

theorem newNode_rep {B : Nat} {w w' : World} (hR : Rep B w T) (hB : B ≤ w.heap.size) (hdi : T.nd i = some di) (hdir : di.dir = true) (hk : w.heap.size ≤ k)
    (hK : Kept (fun x => x = T.tb ∨ x = i ∨ x = di.mb) w w')
    (hT : w'.heap[T.tb]? = some (.cells #[ptrV (some T.root), .int .i64 (T.clock + 1), .int .i64 (T.count + 1)] 133 (0, 0)))
    (hI : w'.heap[i]? = some (.cells #[.bool di.dir, di.bv, mapV di, .int .i64 di.links, .int .i64 (T.clock + 1)] 126 (0, 0)))
    (hM : MapAt w' di.mb (di.names ++ [(nm, k)]))
    (hN : NodeAt B w' k dk) (hbare : dk.names = []) (hnb : dk.dir = true → w.heap.size ≤ dk.mb) (hnr : ∀ r, dk.bv.ownBlock = some r → w.heap.size ≤ r) :
    Rep B w' (T.newNode i di nm k dk) ∧ (∀ x, (T.newNode i di nm k dk).foot x → T.foot x ∨ w.heap.size ≤ x) := by
  have hil := hR.node_lt hdi
  have hik : i ≠ k := by omega
  have hF : ∀ x, (x = T.tb ∨ x = i ∨ x = di.mb) → ∃ j, j ∈ [i] ∧ ∃ dj, T.nd j = some dj ∧ Touch T j dj x := by
    rintro x (rfl | rfl | rfl)
    · exact ⟨i, by simp, di, hdi, .inl rfl⟩
    · exact ⟨x, by simp, di, hdi, .inr (.inl rfl)⟩
    · exact ⟨i, by simp, di, hdi, .inr (.inr (.inl ⟨hdir, rfl⟩))⟩
  have hfoot : ∀ x, (T.newNode i di nm k dk).foot x → T.foot x ∨ w.heap.size ≤ x := by
    rintro x (rfl | ⟨d, hd⟩ | ⟨n, d, hn, h⟩)
    · exact .inl (.inl rfl)
    · rcases newNode_cases hik hd with ⟨rfl, _⟩ | ⟨rfl, _, _⟩ | ⟨_, _, h3⟩
      · exact .inr hk
      · exact .inl (.inr (.inl ⟨di, hdi⟩))
      · exact .inl (.inr (.inl ⟨d, h3⟩))
    · rcases newNode_cases hik hn with ⟨rfl, rfl⟩ | ⟨rfl, _, rfl⟩ | ⟨_, _, h3⟩
      · rcases h with ⟨h1, rfl⟩ | h1
        · exact .inr (hnb h1)
        · exact .inr (hnr x h1)
      · exact .inl (.inr (.inr ⟨n, di, hdi, h⟩))
      · exact .inl (.inr (.inr ⟨n, d, h3, h⟩))
  have old : ∀ {m : Nat} {e : Nd} {r : Nat}, T.nd m = some e → e.bv.ownBlock = some r → r < w.heap.size := fun {m e r} hm hr => hR.lt (.inr (.inr ⟨m, e, hm, .inr hr⟩))
  have oldm : ∀ {m : Nat} {e : Nd}, T.nd m = some e → e.dir = true → e.mb < w.heap.size := fun {m e} hm hd => hR.lt (.inr (.inr ⟨m, e, hm, .inl ⟨hd, rfl⟩⟩))
  refine ⟨⟨fun x hx => ?_, hT, fun n d hn => ?_, fun n d n' d' hn hn' hd hd' he => ?_, fun n d n' d' r hn hn' hr hr' => ?_, ?_, fun n d s q hn hq => ?_⟩, hfoot⟩
  · rcases hfoot x hx with h | h
    · exact hR.low x h
    · omega
  · rcases newNode_cases hik hn with ⟨rfl, rfl⟩ | ⟨rfl, _, rfl⟩ | ⟨h1, _, h3⟩
    · exact hN
    · refine ⟨hI, ?_, fun _ => hM, fun h => ?_⟩
      · refine ownsRow_kept (hR.node n di hdi).row hK ?_
        intro r hr
        obtain ⟨c, hc⟩ := (hR.node n di hdi).row_block hr
        obtain ⟨es, ck, hes, _⟩ := (hR.node n di hdi).map hdir
        rintro (h | h | h)
        · exact cells_ne_type hc hR.tree (by decide) h
        · exact cells_ne_type hc (hR.node n di hdi).cells (by decide) h
        · exact cells_ne_map hc hes h
      · have h' : di.dir = false := h
        rw [hdir] at h'
        cases h'
    · exact hR.others hK [i] hF h3 (by simpa using h1)
  · rcases newNode_cases hik hn with ⟨rfl, rfl⟩ | ⟨rfl, _, rfl⟩ | ⟨_, _, h3⟩
    · have h1 := hnb hd
      rcases newNode_cases hik hn' with ⟨rfl, rfl⟩ | ⟨rfl, _, rfl⟩ | ⟨_, _, h3'⟩
      · rfl
      · have h2 := oldm hdi hdir
        have he' : d.mb = di.mb := he
        omega
      · have h2 := oldm h3' hd'
        omega
    · rcases newNode_cases hik hn' with ⟨rfl, rfl⟩ | ⟨rfl, _, rfl⟩ | ⟨_, _, h3'⟩
      · have h1 := hnb hd'
        have h2 := oldm hdi hdir
        have he' : di.mb = d'.mb := he
        omega
      · rfl
      · exact hR.maps n di n' d' hdi h3' hdir hd' he
    · rcases newNode_cases hik hn' with ⟨rfl, rfl⟩ | ⟨rfl, _, rfl⟩ | ⟨_, _, h3'⟩
      · have h1 := hnb hd'
        have h2 := oldm h3 hd
        omega
      · exact hR.maps n d n' di h3 hdi hd hdir he
      · exact hR.maps n d n' d' h3 h3' hd hd' he
  · rcases newNode_cases hik hn with ⟨rfl, rfl⟩ | ⟨rfl, _, rfl⟩ | ⟨_, _, h3⟩
    · have h1 := hnr r hr
      rcases newNode_cases hik hn' with ⟨rfl, rfl⟩ | ⟨rfl, _, rfl⟩ | ⟨_, _, h3'⟩
      · rfl
      · have := old hdi hr'; omega
      · have := old h3' hr'; omega
    · rcases newNode_cases hik hn' with ⟨rfl, rfl⟩ | ⟨rfl, _, rfl⟩ | ⟨_, _, h3'⟩
      · have h1 := hnr r hr'
        have := old hdi hr; omega
      · rfl
      · exact hR.rows n di n' d' r hdi h3' hr hr'
    · rcases newNode_cases hik hn' with ⟨rfl, rfl⟩ | ⟨rfl, _, rfl⟩ | ⟨_, _, h3'⟩
      · have h1 := hnr r hr'
        have := old h3 hr; omega
      · exact hR.rows n d n' di r h3 hdi hr hr'
      · exact hR.rows n d n' d' r h3 h3' hr hr'
  · obtain ⟨d, hd, hdd⟩ := hR.root
    have hne : T.root ≠ k := by have := hR.node_lt hd; omega
    by_cases h : T.root = i
    · refine ⟨{ di with names := di.names ++ [(nm, k)], tick := T.clock + 1 }, ?_, hdir⟩
      show (T.newNode i di nm k dk).nd T.root = _
      rw [h]
      exact newNode_i hik
    · exact ⟨d, (newNode_other h hne).trans hd, hdd⟩
  · have look' : ∀ q, (∃ d', T.nd q = some d') → ∃ d', (T.newNode i di nm k dk).nd q = some d' := by
      rintro q ⟨d', hd'⟩
      by_cases h1 : q = k
      · exact ⟨_, (congrArg _ h1).trans newNode_k⟩
      · by_cases h2 : q = i
        · exact ⟨_, (congrArg _ h2).trans (newNode_i hik)⟩
        · exact ⟨d', (newNode_other h2 h1).trans hd'⟩
    rcases newNode_cases hik hn with ⟨rfl, rfl⟩ | ⟨rfl, _, rfl⟩ | ⟨_, _, h3⟩
    · rw [hbare] at hq; cases hq
    · rcases List.mem_append.1 hq with h | h
      · exact look' q (hR.kids n di s q hdi h)
      · simp only [List.mem_singleton, Prod.mk.injEq] at h
        obtain ⟨_, rfl⟩ := h
        exact ⟨_, newNode_k⟩
    · exact look' q (hR.kids n d s q h3 hq)
end

/-- A tree's call refused: an error of a code, nothing turned. -/
def TErr (E : Nat → Addr) (w : World) (c : Nat) (e : Ending) (w' : World) : Prop :=
  ∃ a, e = .returned (failV a) ∧ Failed E w.heap.size w' a c ∧ Below w.heap.size w w'

set_option maxRecDepth 100000 in
set_option maxHeartbeats 1000000 in
theorem mkdir_err {E : Nat → Addr} {B : Nat} {T : Tr} (p : ByteArray) (w : World) (hE : Ctx E B w) (hR : Rep B w T) (hsz : p.size ≤ 9223372036854775807) (c : Nat) (hf : T.find p = .error c) :
    Calls Tryz.prog 20 #[.pointer (some ⟨T.tb, 0, none⟩), .string p] w fun e w' => TErr E w c e w' := by
  have HF := find_any p w hE hR hsz
  rw [hf] at HF
  have HC : Hid (Calls Tryz.prog 67 #[.pointer (some ⟨T.tb, 0, none⟩), .string p] w fun e w' => FindPost E w (.error c) e w') := HF
  clear HF hE hR hf
  go_enter Tryz.func20, Tryz.ntmps20
  go_wp2_with fail
  refine HC.out.mono ?_
  rintro e w1 ⟨hb, a, rfl, hfl⟩
  have HB : Hid (Below w.heap.size w w1) := hb
  have HFL : Hid (Failed E w.heap.size w1 a c) := hfl
  clear hb hfl
  simp only [spotV, spot0, ptrV_none]
  go_wp2_with fail
  go_ret
  exact ⟨a, rfl, HFL.out.below (below_alloc w1 _), below_trans HB.out (below_alloc w1 _)⟩

set_option maxRecDepth 100000 in
set_option maxHeartbeats 1000000 in
theorem mkdir_there {E : Nat → Addr} {B : Nat} {T : Tr} (p : ByteArray) (w : World) (hE : Ctx E B w) (hR : Rep B w T) (hsz : p.size ≤ 9223372036854775807) (s : Spot) (hf : T.find p = .ok s) (k : Nat) (hk : s.n = some k) :
    Calls Tryz.prog 20 #[.pointer (some ⟨T.tb, 0, none⟩), .string p] w fun e w' => TErr E w 18 e w' := by
  have HF := find_any p w hE hR hsz
  rw [hf] at HF
  have HC : Hid (Calls Tryz.prog 67 #[.pointer (some ⟨T.tb, 0, none⟩), .string p] w fun e w' => FindPost E w (.ok s) e w') := HF
  have HE := Lib.hid hE
  clear HF hE hR hf
  obtain ⟨inn, nm, nn⟩ := s
  have hk' : nn = some k := hk
  subst hk'
  clear hk
  go_enter Tryz.func20, Tryz.ntmps20
  go_wp2_with fail
  refine HC.out.mono ?_
  rintro e w1 ⟨hb, rfl⟩
  have HB : Hid (Below w.heap.size w w1) := hb
  clear hb
  rcases inn with _ | j <;> simp only [spotV, ptrV_some, ptrV_none]
  all_goals
    go_wp2_with fail
    have HB1 := Lib.hid (fun o => below_trans HB.out (below_alloc w1 o))
    refine (tree_fail _ (HE.out.env.below (HB1.out _)) 18 (by unfold Used; omega)).mono ?_
    rintro e w2 ⟨a, rfl, hfl, hb2⟩
    have HFL := Lib.hid (hfl.mono (HB1.out _).size)
    have HB2 := Lib.hid (below_trans (HB1.out _) hb2)
    clear hfl hb2
    go_wp2_with fail
    go_ret
    exact ⟨a, rfl, HFL.out, HB2.out⟩

set_option maxRecDepth 100000 in
set_option maxHeartbeats 1000000 in
theorem mkdir_full {E : Nat → Addr} {B : Nat} {T : Tr} (p : ByteArray) (w : World) (hE : Ctx E B w) (hR : Rep B w T) (hsz : p.size ≤ 9223372036854775807) (s : Spot) (hf : T.find p = .ok s) (hk : s.n = none) (hfull : 200 ≤ T.count) :
    Calls Tryz.prog 20 #[.pointer (some ⟨T.tb, 0, none⟩), .string p] w fun e w' => TErr E w 19 e w' := by
  have HF := find_any p w hE hR hsz
  rw [hf] at HF
  have HC : Hid (Calls Tryz.prog 67 #[.pointer (some ⟨T.tb, 0, none⟩), .string p] w fun e w' => FindPost E w (.ok s) e w') := HF
  have HE := Lib.hid hE
  have HR := Lib.hid hR
  clear HF hE hR hf
  obtain ⟨inn, nm, nn⟩ := s
  have hk' : nn = none := hk
  subst hk'
  clear hk
  generalize hcc : T.count = cnt at *
  have HCC := Lib.hid hcc
  clear hcc
  go_enter Tryz.func20, Tryz.ntmps20
  go_wp2_with fail
  refine HC.out.mono ?_
  rintro e w1 ⟨hb, rfl⟩
  have HB : Hid (Below w.heap.size w w1) := hb
  clear hb
  have hc2 : w1.cell? ⟨T.tb, 2, none⟩ = some (.int .i64 cnt) := by
    have h := cell_of (o := 2) (HR.out.below HB.out).tree rfl
    rw [HCC.out] at h
    exact h
  have htl : T.tb < w1.heap.size := (HR.out.below HB.out).lt (.inl rfl)
  rcases inn with _ | j <;> simp only [spotV, ptrV_some, ptrV_none]
  all_goals
    go_wp2_with fail
    have HB1 := Lib.hid (fun o => below_trans HB.out (below_alloc w1 o))
    refine (tree_fail _ (HE.out.env.below (HB1.out _)) 19 (by unfold Used; omega)).mono ?_
    rintro e w2 ⟨a, rfl, hfl, hb2⟩
    have HFL := Lib.hid (hfl.mono (HB1.out _).size)
    have HB2 := Lib.hid (below_trans (HB1.out _) hb2)
    clear hfl hb2
    go_wp2_with fail
    go_ret
    exact ⟨a, rfl, HFL.out, HB2.out⟩

/-- What Mkdir leaves where it makes a directory. -/
def MkNew (B : Nat) (w : World) (T : Tr) (i : Nat) (di : Nd) (nm : ByteArray) (e : Ending) (w' : World) : Prop :=
  ∃ k mb, e = .returned .nilIface ∧ w.heap.size ≤ k ∧ Rep B w' (T.newNode i di nm k { dir := true, bv := .slice none 0 0, data := [], names := [], mb := mb, links := 0, tick := T.clock + 1 }) ∧ Kept T.foot w w' ∧ (∀ x, (T.newNode i di nm k { dir := true, bv := .slice none 0 0, data := [], names := [], mb := mb, links := 0, tick := T.clock + 1 }).foot x → T.foot x ∨ w.heap.size ≤ x)

set_option maxRecDepth 100000 in
set_option maxHeartbeats 4000000 in
theorem mkdir_new {E : Nat → Addr} {B : Nat} {T : Tr} (p : ByteArray) (w : World) (hE : Ctx E B w) (hR : Rep B w T) (hsz : p.size ≤ 9223372036854775807) (s : Spot) (hf : T.find p = .ok s)
    (hk : s.n = none) (hfull : T.count < 200) (hcnt : 0 ≤ T.count) (hck0 : 0 ≤ T.clock) (hck : T.clock ≤ 1152921504606846976)
    (i : Nat) (di : Nd) (hi : s.inn = some i) (hdi : T.nd i = some di) (hdir : di.dir = true) (hlk : look di.names s.name = none) :
    Calls Tryz.prog 20 #[.pointer (some ⟨T.tb, 0, none⟩), .string p] w fun e w' => MkNew B w T i di s.name e w' := by
  have HF := find_any p w hE hR hsz
  rw [hf] at HF
  have HC : Hid (Calls Tryz.prog 67 #[.pointer (some ⟨T.tb, 0, none⟩), .string p] w fun e w' => FindPost E w (.ok s) e w') := HF
  have hmm := @Go.RowKit.run_makeMap Tryz.prog
  have HE : Hid (Ctx E B w) := hE
  have HR : Hid (Rep B w T) := hR
  have HDI : Hid (T.nd i = some di) := hdi
  have HDIR : Hid (di.dir = true) := hdir
  obtain ⟨inn, nm, nn⟩ := s
  have hk' : nn = none := hk
  have hi' : inn = some i := hi
  subst hk' hi'
  have HLK : Hid (look di.names nm = none) := hlk
  clear HF hE hR hf hk hi hdi hdir hlk
  go_enter Tryz.func20, Tryz.ntmps20
  go_wp2_with fail
  refine HC.out.mono ?_
  rintro e w1 ⟨hb, rfl⟩
  have HB : Hid (Below w.heap.size w w1) := hb
  have HRP : Hid (Rep B w1 T) := HR.out.below HB.out
  clear hb
  simp only [spotV, ptrV_none, ptrV_some]
  have htl : T.tb < w1.heap.size := HRP.out.lt (.inl rfl)
  have hil : i < w1.heap.size := HRP.out.lt (.inr (.inl ⟨di, HDI.out⟩))
  have HNI : Hid (NodeAt B w1 i di) := HRP.out.node i di HDI.out
  have hc2 : w1.cell? ⟨T.tb, 2, none⟩ = some (.int .i64 T.count) := cell_of HRP.out.tree rfl
  have hmi : w1.cell? ⟨i, 2, none⟩ = some (.map (some di.mb)) := by
    have h1 : w1.cell? ⟨i, 2, none⟩ = some (mapV di) := cell_of HNI.out.cells rfl
    rw [h1]; simp [mapV, HDIR.out]
  generalize hcc : T.count = cnt at *
  have HCC : Hid (T.count = cnt) := hcc
  clear hcc
  have HWM : Hid (MapAt ((((w1.alloc (.cells #[.pointer (some ⟨i, 0, none⟩), .string nm, .pointer none] 135)).alloc (.map #[] 0)).alloc (.cells #[.bool true, .slice none 0 0, .map (some (w1.heap.size + 1)), .int .i64 0, .int .i64 0] 126))).drew di.mb di.names) :=
    (HNI.out.map HDIR.out).kept (Kept.of_below ((below_trans (below_two w1 _ _) (below_alloc _ _)).drew) (fun _ => False)) (fun hf => hf)
  obtain ⟨w2, hrun, hm2, hk2⟩ := run_update_names HWM.out nm HLK.out (w1.heap.size + 2)
  have HM2 : Hid (MapAt w2 di.mb (di.names ++ [(nm, w1.heap.size + 2)])) := hm2
  have HK2 : Hid (Kept (fun b => b = di.mb) ((((w1.alloc (.cells #[.pointer (some ⟨i, 0, none⟩), .string nm, .pointer none] 135)).alloc (.map #[] 0)).alloc (.cells #[.bool true, .slice none 0 0, .map (some (w1.heap.size + 1)), .int .i64 0, .int .i64 0] 126))).drew w2) := hk2
  clear hm2 hk2
  have hil1 : i < w1.heap.size + 1 := by omega
  have hil2 : i < w1.heap.size + 1 + 1 := by omega
  have hil3 : i < w1.heap.size + 2 := by omega
  go_wp2_with fail
  go_region
  clear hrun hmm hil1 hil2 hil3
  have HES : Hid (∃ es ck, w1.heap[di.mb]? = some (.map es ck)) := let ⟨es, ck, h, _⟩ := HNI.out.map HDIR.out; ⟨es, ck, h⟩
  have hsA : ((((w1.alloc (.cells #[.pointer (some ⟨i, 0, none⟩), .string nm, .pointer none] 135)).alloc (.map #[] 0)).alloc (.cells #[.bool true, .slice none 0 0, .map (some (w1.heap.size + 1)), .int .i64 0, .int .i64 0] 126))).drew.heap.size = w1.heap.size + 3 := by simp
  have HOLD : Hid (∀ b o, w1.heap[b]? = some o → b ≠ di.mb → w2.heap[b]? = some o) := by
    intro b o h hne
    have hb := lt_of_heap h
    rw [HK2.out.block b (by omega) hne, heap_drew, Below.heap_alloc _ _ _ (by simp; omega), Below.heap_alloc _ _ _ (by simp; omega), Below.heap_alloc _ _ _ hb]
    exact h
  have HT2 : Hid (w2.heap[T.tb]? = some (.cells #[ptrV (some T.root), .int .i64 T.clock, .int .i64 cnt] 133 (0, 0))) := by
    obtain ⟨es, ck, hes⟩ := HES.out
    show w2.heap[T.tb]? = _
    rw [← HCC.out]
    exact HOLD.out _ _ HRP.out.tree (cells_ne_map HRP.out.tree hes)
  have HI2 : Hid (w2.heap[i]? = some (.cells #[.bool di.dir, di.bv, mapV di, .int .i64 di.links, .int .i64 di.tick] 126 (0, 0))) := by
    obtain ⟨es, ck, hes⟩ := HES.out
    exact HOLD.out _ _ HNI.out.cells (cells_ne_map HNI.out.cells hes)
  have HS2 : Hid (w2.heap[w1.heap.size]? = some (.cells #[.pointer (some ⟨i, 0, none⟩), .string nm, .pointer none] 135 (0, 0))) := by
    obtain ⟨es, ck, hes⟩ := HES.out
    show w2.heap[w1.heap.size]? = _
    have := lt_of_heap hes
    rw [HK2.out.block _ (by omega) (by omega), heap_drew, Below.heap_alloc _ _ _ (by simp; omega), Below.heap_alloc _ _ _ (by simp)]
    exact heap_alloc_new w1 _
  have HMB2 : Hid (w2.heap[w1.heap.size + 1]? = some (.map #[] 0)) := by
    obtain ⟨es, ck, hes⟩ := HES.out
    show w2.heap[w1.heap.size + 1]? = _
    have := lt_of_heap hes
    rw [HK2.out.block _ (by omega) (by omega), heap_drew, Below.heap_alloc _ _ _ (by simp)]
    have h := heap_alloc_new (w1.alloc (.cells #[.pointer (some ⟨i, 0, none⟩), .string nm, .pointer none] 135)) (.map #[] 0)
    simpa using h
  have HN2 : Hid (w2.heap[w1.heap.size + 2]? = some (.cells #[.bool true, .slice none 0 0, .map (some (w1.heap.size + 1)), .int .i64 0, .int .i64 0] 126 (0, 0))) := by
    obtain ⟨es, ck, hes⟩ := HES.out
    show w2.heap[w1.heap.size + 2]? = _
    have := lt_of_heap hes
    rw [HK2.out.block _ (by omega) (by omega), heap_drew]
    have h := heap_alloc_new ((w1.alloc (.cells #[.pointer (some ⟨i, 0, none⟩), .string nm, .pointer none] 135)).alloc (.map #[] 0)) (.cells #[.bool true, .slice none 0 0, .map (some (w1.heap.size + 1)), .int .i64 0, .int .i64 0] 126)
    simpa using h
  have HSZ2 : Hid (w1.heap.size + 3 ≤ w2.heap.size) := by have := HK2.out.size; rw [hsA] at this; exact this
  have HKA : Hid (Kept (fun x => x = T.tb ∨ x = i ∨ x = di.mb) w w2) := by
    refine ((((Kept.of_below HB.out (fun x => x = T.tb ∨ x = i ∨ x = di.mb)).alloc _).alloc _).alloc _).drew.trans HK2.out ?_
    rintro x rfl
    exact .inl (.inr (.inr rfl))
  have HNEs : Hid (T.tb ≠ i ∧ T.tb < w1.heap.size ∧ i < w1.heap.size) := ⟨cells_ne_type HRP.out.tree HNI.out.cells (by decide), htl, hil⟩
  clear hc2 hmi HWM HK2 hsA HOLD
  have h20 : w2.cell? ⟨T.tb, 2, none⟩ = some (.int .i64 cnt) := cell_of HT2.out rfl
  have f20 : ∀ o, w2.frozen? ⟨T.tb, o, none⟩ = false := fun o => free_of HT2.out o
  have g20 : w2.cell? ⟨w1.heap.size, 0, none⟩ = some (.pointer (some ⟨i, 0, none⟩)) := cell_of HS2.out rfl
  have n1 : w1.heap.size ≠ T.tb := by omega
  have n2 : T.tb < w2.heap.size := lt_of_heap HT2.out
  have n3 : w1.heap.size < w2.heap.size := lt_of_heap HS2.out
  go_wp2_with fail
  have HOL3 : Hid (∀ b o, w2.heap[b]? = some o → b ≠ T.tb → ((w2.setCell ⟨T.tb, 2, none⟩ (.int .i64 (cnt + 1))).alloc (.cells #[.pointer (some ⟨w1.heap.size + 2, 0, none⟩), .pointer (some ⟨i, 0, none⟩)] 121)).heap[b]? = some o) := by
    intro b o h hne
    have := lt_of_heap h
    rw [Below.heap_alloc _ _ _ (by simp [World.setCell]; omega), heap_set_other _ _ _ hne]
    exact h
  have HT3 : Hid (((w2.setCell ⟨T.tb, 2, none⟩ (.int .i64 (cnt + 1))).alloc (.cells #[.pointer (some ⟨w1.heap.size + 2, 0, none⟩), .pointer (some ⟨i, 0, none⟩)] 121)).heap[T.tb]? = some (.cells #[ptrV (some T.root), .int .i64 T.clock, .int .i64 (cnt + 1)] 133 (0, 0))) := by
    show _ = _
    rw [Below.heap_alloc _ _ _ (by simp [World.setCell]; omega)]
    exact heap_set_same HT2.out 2 _
  have HI3 := Lib.hid (HOL3.out _ _ HI2.out (Ne.symm HNEs.out.1))
  have HN3 := Lib.hid (HOL3.out _ _ HN2.out (by have := HNEs.out; omega))
  have HMB3 := Lib.hid (HOL3.out _ _ HMB2.out (by have := HNEs.out; omega))
  have HKA3 : Hid (Kept (fun x => x = T.tb ∨ x = i ∨ x = di.mb) w ((w2.setCell ⟨T.tb, 2, none⟩ (.int .i64 (cnt + 1))).alloc (.cells #[.pointer (some ⟨w1.heap.size + 2, 0, none⟩), .pointer (some ⟨i, 0, none⟩)] 121))) := (HKA.out.setCell (p := ⟨T.tb, 2, none⟩) (.inl (.inl rfl)) _).alloc _
  have HS3 : Hid (((w2.setCell ⟨T.tb, 2, none⟩ (.int .i64 (cnt + 1))).alloc (.cells #[.pointer (some ⟨w1.heap.size + 2, 0, none⟩), .pointer (some ⟨i, 0, none⟩)] 121)).heap[w2.heap.size]? = some (.cells #[.pointer (some ⟨w1.heap.size + 2, 0, none⟩), .pointer (some ⟨i, 0, none⟩)] 121 (0, 0))) := by
    have h := heap_alloc_new (w2.setCell ⟨T.tb, 2, none⟩ (.int .i64 (cnt + 1))) (.cells #[.pointer (some ⟨w1.heap.size + 2, 0, none⟩), .pointer (some ⟨i, 0, none⟩)] 121)
    have e : (w2.setCell ⟨T.tb, 2, none⟩ (.int .i64 (cnt + 1))).heap.size = w2.heap.size := by simp [World.setCell]
    rw [e] at h
    exact h
  have HM3 : Hid (MapAt ((w2.setCell ⟨T.tb, 2, none⟩ (.int .i64 (cnt + 1))).alloc (.cells #[.pointer (some ⟨w1.heap.size + 2, 0, none⟩), .pointer (some ⟨i, 0, none⟩)] 121)) di.mb (di.names ++ [(nm, w1.heap.size + 2)])) := by
    obtain ⟨es, ck, h1, h2⟩ := HM2.out
    exact ⟨es, ck, HOL3.out _ _ h1 (Ne.symm (cells_ne_map HT2.out h1)), h2⟩
  refine (tick2 hck0 hck HT3.out HN3.out HI3.out HS3.out (by have := HNEs.out; omega)).mono ?_
  intro e w4 hp
  obtain ⟨rfl, hT4, hN4, hI4, hK4⟩ := hp
  have HT4 : Hid (w4.heap[T.tb]? = some (.cells #[ptrV (some T.root), .int .i64 (T.clock + 1), .int .i64 (cnt + 1)] 133 (0, 0))) := hT4
  have HN4 : Hid (w4.heap[w1.heap.size + 2]? = some (.cells #[.bool true, .slice none 0 0, .map (some (w1.heap.size + 1)), .int .i64 0, .int .i64 (T.clock + 1)] 126 (0, 0))) := hN4
  have HI4 : Hid (w4.heap[i]? = some (.cells #[.bool di.dir, di.bv, mapV di, .int .i64 di.links, .int .i64 (T.clock + 1)] 126 (0, 0))) := hI4
  have HK4 : Hid (Kept (fun x => x = T.tb ∨ x = i ∨ x = di.mb) w w4) := HKA3.out.trans hK4 (by
    have h1 := HB.out.size
    rintro x (rfl | rfl | rfl)
    · exact .inl (.inl rfl)
    · exact .inr (by omega)
    · exact .inl (.inr (.inl rfl)))
  have HM4 : Hid (MapAt w4 di.mb (di.names ++ [(nm, w1.heap.size + 2)])) := HM3.out.kept hK4 (by
    obtain ⟨es, ck, h1, h2⟩ := HM3.out
    rintro (h | h | h)
    · exact cells_ne_map HT3.out h1 h.symm
    · exact cells_ne_map HN3.out h1 h.symm
    · exact cells_ne_map HI3.out h1 h.symm)
  have HMB4 : Hid (w4.heap[w1.heap.size + 1]? = some (.map #[] 0)) := by
    show _ = _
    rw [hK4.block _ (lt_of_heap HMB3.out) (by
      rintro (h | h | h)
      · exact cells_ne_map HT3.out HMB3.out h.symm
      · exact cells_ne_map HN3.out HMB3.out h.symm
      · exact cells_ne_map HI3.out HMB3.out h.symm)]
    exact HMB3.out
  clear hT4 hN4 hI4 hK4 HT3 HN3 HI3 HS3 HKA3 HM3 HMB3 HT2 HI2 HS2 HN2 HMB2 HSZ2 HKA HM2 h20 f20 g20 n1 n2 n3 HOL3
  go_wp2_with fail
  go_ret
  have hne := HNEs.out
  have hkl : w.heap.size ≤ w1.heap.size + 2 := by have := HB.out.size; omega
  have hkm : w.heap.size ≤ w1.heap.size + 1 := by have := HB.out.size; omega
  have hrep := newNode_rep (nm := nm) (k := w1.heap.size + 2) (dk := { dir := true, bv := .slice none 0 0, data := [], names := [], mb := w1.heap.size + 1, links := 0, tick := T.clock + 1 }) HR.out HE.out.env.size HDI.out HDIR.out hkl HK4.out
    (by rw [HCC.out]; exact HT4.out) HI4.out HM4.out ⟨HN4.out, World.ownsRow_nil _ _ _ _, fun _ => ⟨#[], 0, HMB4.out, rfl, MapKept.stamped_empty 0⟩, fun h => (by cases h)⟩ rfl (fun _ => hkm) (fun _ h => (by cases h))
  refine ⟨w1.heap.size + 2, w1.heap.size + 1, rfl, hkl, hrep.1, HK4.out.mono ?_, hrep.2⟩
  rintro x (rfl | rfl | rfl)
  · exact .inl rfl
  · exact .inr (.inl ⟨di, HDI.out⟩)
  · exact .inr (.inr ⟨i, di, HDI.out, .inl ⟨HDIR.out, rfl⟩⟩)
end

section
theorem Rep.change {B : Nat} {w w' : World} {T T' : Tr} {F : Nat → Prop} (h : Rep B w T) (k : Kept F w w')
    (hF : ∀ b, F b → b = T.tb ∨ (∃ d, T.nd b = some d) ∨ ∃ n d, T.nd n = some d ∧ d.dir = true ∧ d.mb = b)
    (htb : T'.tb = T.tb) (htree : w'.heap[T.tb]? = some (.cells #[ptrV (some T'.root), .int .i64 T'.clock, .int .i64 T'.count] 133 (0, 0)))
    (hnode : ∀ n d', T'.nd n = some d' → (T.nd n = some d' ∧ ¬ F n ∧ (d'.dir = true → ¬ F d'.mb)) ∨
      (w'.heap[n]? = some (.cells #[.bool d'.dir, d'.bv, mapV d', .int .i64 d'.links, .int .i64 d'.tick] 126 (0, 0)) ∧ (d'.dir = true → MapAt w' d'.mb d'.names) ∧ (d'.dir = false → d'.names = []) ∧
        ∃ d, T.nd n = some d ∧ d.dir = d'.dir ∧ d.bv = d'.bv ∧ d.data = d'.data ∧ d.mb = d'.mb))
    (hroot : ∃ d, T'.nd T'.root = some d ∧ d.dir = true) (hkids : ∀ n d s k, T'.nd n = some d → (s, k) ∈ d.names → ∃ d', T'.nd k = some d') :
    Rep B w' T' ∧ ∀ x, T'.foot x → T.foot x := by
  have row_free : ∀ n d b, T.nd n = some d → d.bv.ownBlock = some b → ¬ F b := fun n d b hn hb hf => by
    obtain ⟨c, hc⟩ := (h.node n d hn).row_block hb
    rcases hF b hf with rfl | ⟨d2, hd2⟩ | ⟨m, d2, hd2, h1, rfl⟩
    · exact cells_ne_type hc h.tree (by decide) rfl
    · exact cells_ne_type hc (h.node _ _ hd2).cells (by decide) rfl
    · obtain ⟨es, ck, h3, _⟩ := (h.node _ _ hd2).map h1
      exact cells_ne_map hc h3 rfl
  have old : ∀ n d', T'.nd n = some d' → ∃ d, T.nd n = some d ∧ d.dir = d'.dir ∧ d.bv = d'.bv ∧ d.data = d'.data ∧ d.mb = d'.mb := fun n d' hn => by
    rcases hnode n d' hn with ⟨h1, _⟩ | ⟨_, _, _, h1⟩
    · exact ⟨d', h1, rfl, rfl, rfl, rfl⟩
    · exact h1
  have hfoot : ∀ x, T'.foot x → T.foot x := by
    rintro x (rfl | ⟨d, hd⟩ | ⟨n, d, hd, hx⟩)
    · exact .inl htb
    · obtain ⟨d2, h2, _⟩ := old x d hd
      exact .inr (.inl ⟨d2, h2⟩)
    · obtain ⟨d2, h2, e1, e2, e3, e4⟩ := old n d hd
      rw [← e1, ← e2, ← e4] at hx
      exact .inr (.inr ⟨n, d2, h2, hx⟩)
  refine ⟨⟨fun b hb => h.low b (hfoot b hb), by rw [htb]; exact htree, ?_, ?_, ?_, hroot, hkids⟩, hfoot⟩
  · intro n d' hn
    rcases hnode n d' hn with ⟨h1, h2, h3⟩ | ⟨h1, h2, h3, d, h4, e1, e2, e3, e4⟩
    · exact (h.node n d' h1).kept k h2 h3 (row_free n d' · h1)
    · have h5 := ownsRow_kept (h.node n d h4).row k (row_free n d · h4)
      rw [e2, e3] at h5
      exact ⟨h1, h5, h2, h3⟩
  · intro n d n' d' hn hn' hd hd' he
    obtain ⟨x, hx, e1, _, _, e4⟩ := old n d hn
    obtain ⟨y, hy, q1, _, _, q4⟩ := old n' d' hn'
    exact h.maps n x n' y hx hy (e1.trans hd) (q1.trans hd') (e4.trans (he.trans q4.symm))
  · intro n d n' d' b hn hn' hb hb'
    obtain ⟨x, hx, _, e2, _, _⟩ := old n d hn
    obtain ⟨y, hy, _, q2, _, _⟩ := old n' d' hn'
    exact h.rows n x n' y b hx hy (by rw [e2]; exact hb) (by rw [q2]; exact hb')

/-! ### delete from a map of names -/

theorem map_erase {α β : Type} (f : α → β) : ∀ (l : List α) (j : Nat), (l.eraseIdx j).map f = (l.map f).eraseIdx j
  | [], _ => by simp
  | _ :: _, 0 => by simp
  | a :: l, j + 1 => by rw [List.eraseIdx_cons_succ, List.map_cons, List.map_cons, List.eraseIdx_cons_succ, map_erase f l j]
theorem erase_filter : ∀ (names : List (ByteArray × Nat)) (s : ByteArray), (names.map (·.1)).Nodup → ∀ j, names.findIdx? (fun p => s == p.1) = some j → names.eraseIdx j = names.filter (fun p => !(s == p.1))
  | [], s, _, j, h => by simp at h
  | p :: l, s, hn, j, h => by
    rw [List.map_cons, List.nodup_cons] at hn
    rw [List.findIdx?_cons] at h
    by_cases hs : (s == p.1) = true
    · rw [if_pos hs] at h
      cases h
      rw [List.eraseIdx_zero, List.tail_cons, List.filter_cons_of_neg (by simp [hs])]
      refine (List.filter_eq_self.2 fun q hq => ?_).symm
      have e : s = p.1 := (MapKept.bytes_beq s p.1).1 hs
      have hne : ¬ (s == q.1) = true := fun h2 => by
        have e2 : s = q.1 := (MapKept.bytes_beq s q.1).1 h2
        exact hn.1 (List.mem_map.2 ⟨q, hq, by rw [← e2, e]⟩)
      simpa using hne
    · rw [if_neg hs] at h
      cases hf : l.findIdx? (fun p => s == p.1) with
      | none => rw [hf] at h; cases h
      | some i =>
        rw [hf] at h
        simp only [Option.map_some, Option.some.injEq] at h
        subst h
        rw [List.eraseIdx_cons_succ, erase_filter l s hn.2 i hf, List.filter_cons_of_pos (by simpa using hs)]
theorem MapAt.nodup {w : World} {mb : Nat} {names : List (ByteArray × Nat)} (h : MapAt w mb names) : (names.map (·.1)).Nodup := by
  obtain ⟨es, clock, hb, he, hsd⟩ := h
  have h1 : es.toList.map (·.key) = names.map (fun p => Value.string p.1) := by
    have := congrArg (List.map Prod.fst) he
    simpa [List.map_map, Function.comp_def] using this
  have h2 := hsd.2.2
  rw [h1] at h2
  have h3 : names.map (fun p => Value.string p.1) = (names.map (·.1)).map Value.string := by simp [List.map_map, Function.comp_def]
  rw [h3] at h2
  exact List.Pairwise.of_map Value.string (fun a b hab e => hab (by rw [e])) h2
theorem look_some_idx {names : List (ByteArray × Nat)} {s : ByteArray} {k : Nat} (h : look names s = some k) : ∃ j, names.findIdx? (fun p => s == p.1) = some j := by
  rw [look_idx] at h
  cases hf : names.findIdx? (fun p => s == p.1) with
  | none => rw [hf] at h; cases h
  | some j => exact ⟨j, rfl⟩

theorem run_delete_names {w : World} {mb : Nat} {names : List (ByteArray × Nat)} (h : MapAt w mb names) (s : ByteArray) {k : Nat} (hk : look names s = some k) :
    ∃ w', (∀ ty : TypeId, (Builtin.delete_ #[124, 9] ty #[.map (some mb), .string s]).run Tryz.prog w = .ok (.tuple #[]) w') ∧ MapAt w' mb (names.filter fun p => !(s == p.1)) ∧ Kept (fun b => b = mb) w w' := by
  have hnd := h.nodup
  obtain ⟨es, clock, hb, he, hsd⟩ := h
  have hm : Tryz.prog.underlying 124 = some (.map 9 121) := Tryz.underlying124
  have hs : Tryz.prog.underlying 9 = some .string := Tryz.underlying9
  have hf := findNow_names s es.toList names 0 he
  obtain ⟨j, hj⟩ := look_some_idx hk
  rw [hj] at hf
  have hg : (getObj mb).run Tryz.prog w = .ok (.map es clock) w := MapKept.run_getObj_map hb
  have hc := checkKey_str hs es.isEmpty 9999 s w
  have hst := MapKept.run_setObj_map (P := Tryz.prog) (Obj.map (es.eraseIdxIfInBounds j) clock) hb
  refine ⟨{ w with heap := w.heap.setIfInBounds mb (Obj.map (es.eraseIdxIfInBounds j) clock) }, fun ty => ?_, ?_, Kept.setHeap w mb _⟩
  · simp [Builtin.delete_, run_underlying hm, hg, hc, Instr.findKey, run_underlying hs, hf, hst, Result.andThen]
  · refine ⟨_, _, heap_setHeap (lt_of_heap hb) _, ?_, MapKept.stamped_erase hsd j⟩
    rw [← erase_filter names s hnd j hj]
    have hl : es.toList.length = names.length := by
      have := congrArg List.length he
      simpa using this
    have hjl : j < es.size := by
      have := (List.findIdx?_eq_some_iff_getElem.1 hj).1
      rw [← Array.length_toList]
      omega
    unfold Array.eraseIdxIfInBounds
    rw [dif_pos hjl, Array.toList_eraseIdx]
    rw [map_erase, he, ← map_erase]
end

section
set_option maxRecDepth 100000 in
set_option maxHeartbeats 1000000 in
theorem remove_err {E : Nat → Addr} {B : Nat} {T : Tr} (p : ByteArray) (w : World) (hE : Ctx E B w) (hR : Rep B w T) (hsz : p.size ≤ 9223372036854775807) (c : Nat) (hf : T.find p = .error c) :
    Calls Tryz.prog 19 #[.pointer (some ⟨T.tb, 0, none⟩), .string p] w fun e w' => TErr E w c e w' := by
  have HF := find_any p w hE hR hsz
  rw [hf] at HF
  have HC : Hid (Calls Tryz.prog 67 #[.pointer (some ⟨T.tb, 0, none⟩), .string p] w fun e w' => FindPost E w (.error c) e w') := HF
  clear HF hE hR hf
  go_enter Tryz.func19, Tryz.ntmps19
  go_wp2_with fail
  refine HC.out.mono ?_
  rintro e w1 ⟨hb, a, rfl, hfl⟩
  have HB : Hid (Below w.heap.size w w1) := hb
  have HFL : Hid (Failed E w.heap.size w1 a c) := hfl
  clear hb hfl
  simp only [spotV, spot0, ptrV_none]
  go_wp2_with fail
  go_ret
  exact ⟨a, rfl, HFL.out.below (below_alloc w1 _), below_trans HB.out (below_alloc w1 _)⟩

set_option maxRecDepth 100000 in
set_option maxHeartbeats 1000000 in
theorem remove_none {E : Nat → Addr} {B : Nat} {T : Tr} (p : ByteArray) (w : World) (hE : Ctx E B w) (hR : Rep B w T) (hsz : p.size ≤ 9223372036854775807) (s : Spot) (hf : T.find p = .ok s) (hk : s.n = none) :
    Calls Tryz.prog 19 #[.pointer (some ⟨T.tb, 0, none⟩), .string p] w fun e w' => TErr E w 16 e w' := by
  have HF := find_any p w hE hR hsz
  rw [hf] at HF
  have HC : Hid (Calls Tryz.prog 67 #[.pointer (some ⟨T.tb, 0, none⟩), .string p] w fun e w' => FindPost E w (.ok s) e w') := HF
  have HE := Lib.hid hE
  clear HF hE hR hf
  obtain ⟨inn, nm, nn⟩ := s
  have hk' : nn = none := hk
  subst hk'
  clear hk
  go_enter Tryz.func19, Tryz.ntmps19
  go_wp2_with fail
  refine HC.out.mono ?_
  rintro e w1 ⟨hb, rfl⟩
  have HB : Hid (Below w.heap.size w w1) := hb
  clear hb
  rcases inn with _ | j <;> simp only [spotV, ptrV_some, ptrV_none]
  all_goals
    go_wp2_with fail
    have HB1 := Lib.hid (fun o => below_trans HB.out (below_alloc w1 o))
    refine (tree_fail _ (HE.out.env.below (HB1.out _)) 16 (by unfold Used; omega)).mono ?_
    rintro e w2 ⟨a, rfl, hfl, hb2⟩
    have HFL := Lib.hid (hfl.mono (HB1.out _).size)
    have HB2 := Lib.hid (below_trans (HB1.out _) hb2)
    clear hfl hb2
    go_wp2_with fail
    go_ret
    exact ⟨a, rfl, HFL.out, HB2.out⟩
set_option maxRecDepth 100000 in
set_option maxHeartbeats 1000000 in
theorem remove_root {E : Nat → Addr} {B : Nat} {T : Tr} (p : ByteArray) (w : World) (hE : Ctx E B w) (hR : Rep B w T) (hsz : p.size ≤ 9223372036854775807) (s : Spot) (hf : T.find p = .ok s) (hin : s.inn = none) (k : Nat) (hk : s.n = some k) :
    Calls Tryz.prog 19 #[.pointer (some ⟨T.tb, 0, none⟩), .string p] w fun e w' => TErr E w 17 e w' := by
  have HF := find_any p w hE hR hsz
  rw [hf] at HF
  have HC : Hid (Calls Tryz.prog 67 #[.pointer (some ⟨T.tb, 0, none⟩), .string p] w fun e w' => FindPost E w (.ok s) e w') := HF
  have HE := Lib.hid hE
  clear HF hE hR hf
  obtain ⟨inn, nm, nn⟩ := s
  have hk' : nn = some k := hk
  have hi' : inn = none := hin
  subst hk' hi'
  clear hk hin
  go_enter Tryz.func19, Tryz.ntmps19
  go_wp2_with fail
  refine HC.out.mono ?_
  rintro e w1 ⟨hb, rfl⟩
  have HB : Hid (Below w.heap.size w w1) := hb
  clear hb
  simp only [spotV, ptrV_some, ptrV_none]
  focus
    go_wp2_with fail
    have HB1 := Lib.hid (fun o => below_trans HB.out (below_alloc w1 o))
    refine (tree_fail _ (HE.out.env.below (HB1.out _)) 17 (by unfold Used; omega)).mono ?_
    rintro e w2 ⟨a, rfl, hfl, hb2⟩
    have HFL := Lib.hid (hfl.mono (HB1.out _).size)
    have HB2 := Lib.hid (below_trans (HB1.out _) hb2)
    clear hfl hb2
    go_wp2_with fail
    go_ret
    exact ⟨a, rfl, HFL.out, HB2.out⟩

set_option maxRecDepth 100000 in
set_option maxHeartbeats 1000000 in
theorem remove_full {E : Nat → Addr} {B : Nat} {T : Tr} (p : ByteArray) (w : World) (hE : Ctx E B w) (hR : Rep B w T) (hsz : p.size ≤ 9223372036854775807) (s : Spot) (hf : T.find p = .ok s) (i : Nat) (hin : s.inn = some i) (k : Nat) (hk : s.n = some k)
    (dk : Nd) (hdk : T.nd k = some dk) (hdir : dk.dir = true) (hne : dk.names ≠ []) :
    Calls Tryz.prog 19 #[.pointer (some ⟨T.tb, 0, none⟩), .string p] w fun e w' => TErr E w 17 e w' := by
  have HF := find_any p w hE hR hsz
  rw [hf] at HF
  have HC : Hid (Calls Tryz.prog 67 #[.pointer (some ⟨T.tb, 0, none⟩), .string p] w fun e w' => FindPost E w (.ok s) e w') := HF
  have HE := Lib.hid hE
  have HR := Lib.hid hR
  have HDK := Lib.hid hdk
  have HDIR := Lib.hid hdir
  have HNE := Lib.hid hne
  clear HF hE hR hf hdk hdir hne
  obtain ⟨inn, nm, nn⟩ := s
  have hk' : nn = some k := hk
  have hi' : inn = some i := hin
  subst hk' hi'
  clear hk hin
  go_enter Tryz.func19, Tryz.ntmps19
  go_wp2_with fail
  refine HC.out.mono ?_
  rintro e w1 ⟨hb, rfl⟩
  have HB1 : Hid (Below w.heap.size w w1) := hb
  clear hb
  simp only [spotV, ptrV_some]
  obtain ⟨w3, hw3⟩ : ∃ w3, w3 = w1.alloc (.cells #[.pointer (some ⟨i, 0, none⟩), .string nm, .pointer (some ⟨k, 0, none⟩)] 135) := ⟨_, rfl⟩
  have HW3 := Lib.hid hw3
  have HB3 : Hid (Below w.heap.size w w3) := by rw [hw3]; exact HB1.out.alloc HB1.out.size _
  have HS3 : Hid (w3.heap[w1.heap.size]? = some (.cells #[.pointer (some ⟨i, 0, none⟩), .string nm, .pointer (some ⟨k, 0, none⟩)] 135 (0, 0))) := by rw [hw3]; exact heap_alloc_new w1 _
  clear hw3
  go_upto_region 2 with fail
  rw [← HW3.out]
  clear HW3 HB1
  generalize w1.heap.size = sb at *
  have HRP := Lib.hid (HR.out.below HB3.out)
  have HNK := Lib.hid (HRP.out.node k dk HDK.out)
  have s0 := cell_of (o := 0) HS3.out rfl
  have s2 := cell_of (o := 2) HS3.out rfl
  have k0 : w3.cell? ⟨k, 0, none⟩ = some (.bool true) := by
    have h1 : w3.cell? ⟨k, 0, none⟩ = some (.bool dk.dir) := cell_of HNK.out.cells rfl
    rw [h1, HDIR.out]
  have k2 : w3.cell? ⟨k, 2, none⟩ = some (.map (some dk.mb)) := by
    have h1 : w3.cell? ⟨k, 2, none⟩ = some (mapV dk) := cell_of HNK.out.cells rfl
    rw [h1]; simp [mapV, HDIR.out]
  obtain ⟨es, ck, hes, hkv, _⟩ := HNK.out.map HDIR.out
  have hpos : (0 : Int) < es.size := by
    have h1 := congrArg List.length hkv
    simp only [List.length_map, Array.length_toList] at h1
    have h2 := List.length_pos_iff.2 HNE.out
    omega
  clear hkv
  have hun : Tryz.prog.underlying 124 = some (.map (Tryz.prog.mapKeyOf 124) (Tryz.prog.mapElemOf 124)) := by kernel_rfl
  have hlen := run_len_map (P := Tryz.prog) (w := w3) 124 3 dk.mb es ck hun hes
  go_wp2_with fail
  refine (tree_fail _ (HE.out.env.below HB3.out) 17 (by unfold Used; omega)).mono ?_
  rintro e w4 ⟨a, rfl, hfl, hb4⟩
  have HFL := Lib.hid (hfl.mono HB3.out.size)
  have HB4 := Lib.hid (below_trans HB3.out hb4)
  clear hfl hb4
  go_wp2_with fail
  go_ret
  exact ⟨a, rfl, HFL.out, HB4.out⟩
end

section
/-- A name less: of a directory the node goes, of a file a link. -/
def Tr.pruned (T : Tr) (i : Nat) (di : Nd) (nm : ByteArray) (k : Nat) (dk : Nd) : Tr :=
  { T with clock := T.clock + 1, count := T.count - (if dk.dir = true ∨ dk.links = 1 then 1 else 0),
           nd := fun x => if x = k then (if dk.dir then none else some { dk with links := dk.links - 1 }) else if x = i then some { di with names := di.names.filter (fun p => !(nm == p.1)), tick := T.clock + 1 } else T.nd x }

theorem pruned_rep {B : Nat} {w w' : World} {T : Tr} (hR : Rep B w T) {i k : Nat} {di dk : Nd} {nm : ByteArray} (hdi : T.nd i = some di) (hdir : di.dir = true) (hdk : T.nd k = some dk) (hik : i ≠ k) (hroot : T.root ≠ k) (hbare : dk.names = [])
    (hone : dk.dir = true → ∀ n d s, T.nd n = some d → (s, k) ∈ d.names → n = i ∧ s = nm)
    (hK : Kept (fun x => x = T.tb ∨ x = i ∨ x = di.mb ∨ x = k) w w')
    (hT : w'.heap[T.tb]? = some (.cells #[ptrV (some T.root), .int .i64 (T.clock + 1), .int .i64 (T.count - (if dk.dir = true ∨ dk.links = 1 then 1 else 0))] 133 (0, 0)))
    (hI : w'.heap[i]? = some (.cells #[.bool di.dir, di.bv, mapV di, .int .i64 di.links, .int .i64 (T.clock + 1)] 126 (0, 0)))
    (hKn : dk.dir = false → w'.heap[k]? = some (.cells #[.bool dk.dir, dk.bv, mapV dk, .int .i64 (dk.links - 1), .int .i64 dk.tick] 126 (0, 0)))
    (hM : MapAt w' di.mb (di.names.filter fun p => !(nm == p.1))) : Rep B w' (T.pruned i di nm k dk) ∧ ∀ x, (T.pruned i di nm k dk).foot x → T.foot x := by
  have hnd : ∀ x, (T.pruned i di nm k dk).nd x = if x = k then (if dk.dir then none else some { dk with links := dk.links - 1 }) else if x = i then some { di with names := di.names.filter (fun p => !(nm == p.1)), tick := T.clock + 1 } else T.nd x := fun x => rfl
  have there : ∀ q, (∃ d', T.nd q = some d') → (q = k → dk.dir = false) → ∃ d', (T.pruned i di nm k dk).nd q = some d' := by
    rintro q ⟨d', hd'⟩ hq
    rw [hnd]
    by_cases h1 : q = k
    · rw [if_pos h1, hq h1]; exact ⟨_, rfl⟩
    · by_cases h2 : q = i
      · exact ⟨_, by rw [if_neg h1, if_pos h2]⟩
      · exact ⟨d', by rw [if_neg h1, if_neg h2]; exact hd'⟩
  refine hR.change hK ?_ rfl hT ?_ ?_ ?_
  · rintro b (rfl | rfl | rfl | rfl)
    · exact .inl rfl
    · exact .inr (.inl ⟨di, hdi⟩)
    · exact .inr (.inr ⟨i, di, hdi, hdir, rfl⟩)
    · exact .inr (.inl ⟨dk, hdk⟩)
  · intro n d' hn
    rw [hnd] at hn
    by_cases h1 : n = k
    · rw [if_pos h1] at hn
      cases hfl : dk.dir with
      | true => rw [hfl] at hn; cases hn
      | false =>
        rw [hfl] at hn
        cases hn
        subst h1
        refine .inr ⟨?_, fun h => ?_, fun _ => hbare, dk, hdk, hfl, rfl, rfl, rfl⟩
        · have h2 := hKn hfl
          rw [hfl] at h2
          have e : mapV { dir := false, bv := dk.bv, data := dk.data, names := dk.names, mb := dk.mb, links := dk.links - 1, tick := dk.tick } = mapV dk := by unfold mapV; rw [hfl]
          show _ = some (Obj.cells #[.bool false, dk.bv, mapV { dir := false, bv := dk.bv, data := dk.data, names := dk.names, mb := dk.mb, links := dk.links - 1, tick := dk.tick }, .int .i64 (dk.links - 1), .int .i64 dk.tick] 126 (0, 0))
          rw [e]
          exact h2
        · cases h
    · rw [if_neg h1] at hn
      by_cases h2 : n = i
      · rw [if_pos h2] at hn
        cases hn
        subst h2
        exact .inr ⟨hI, fun _ => hM, (fun h => by have h : di.dir = false := h; rw [hdir] at h; cases h), di, hdi, rfl, rfl, rfl, rfl⟩
      · rw [if_neg h2] at hn
        refine .inl ⟨hn, ?_, fun hd => ?_⟩
        · obtain ⟨es, ck, hes, _⟩ := (hR.node i di hdi).map hdir
          rintro (h | h | h | h)
          · exact cells_ne_type (hR.node n d' hn).cells hR.tree (by decide) h
          · exact h2 h
          · exact cells_ne_map (hR.node n d' hn).cells hes h
          · exact h1 h
        · obtain ⟨es, ck, hes, _⟩ := (hR.node n d' hn).map hd
          rintro (h | h | h | h)
          · exact cells_ne_map hR.tree hes h.symm
          · exact cells_ne_map (hR.node i di hdi).cells hes h.symm
          · exact h2 (hR.maps n d' i di hn hdi hd hdir h)
          · exact cells_ne_map (hR.node k dk hdk).cells hes h.symm
  · obtain ⟨d, hd, hdd⟩ := hR.root
    show ∃ d, (T.pruned i di nm k dk).nd T.root = some d ∧ d.dir = true
    rw [hnd, if_neg hroot]
    by_cases h2 : T.root = i
    · rw [if_pos h2]; exact ⟨_, rfl, hdir⟩
    · rw [if_neg h2]; exact ⟨d, hd, hdd⟩
  · intro n d s q hn hq
    have key : ∀ m e, T.nd m = some e → (s, q) ∈ e.names → (m = i → s ≠ nm) → ∃ d', (T.pruned i di nm k dk).nd q = some d' := fun m e hm hq hs => by
      refine there q (hR.kids m e s q hm hq) (fun e1 => ?_)
      cases hfl : dk.dir with
      | false => rfl
      | true =>
        subst e1
        obtain ⟨h1, h2⟩ := hone hfl m e s hm hq
        exact absurd h2 (hs h1)
    rw [hnd] at hn
    by_cases h1 : n = k
    · rw [if_pos h1] at hn
      cases hfl : dk.dir with
      | true => rw [hfl] at hn; cases hn
      | false =>
        rw [hfl] at hn
        cases hn
        rw [hbare] at hq
        cases hq
    · rw [if_neg h1] at hn
      by_cases h2 : n = i
      · rw [if_pos h2] at hn
        cases hn
        obtain ⟨h3, h4⟩ := List.mem_filter.1 hq
        refine key i di hdi h3 (fun _ e => ?_)
        subst e
        simp [(MapKept.bytes_beq s s).2 rfl] at h4
      · rw [if_neg h2] at hn
        exact key n d hn hq (fun e => absurd e h2)

def PrunedPost (B : Nat) (w : World) (T : Tr) (i : Nat) (di : Nd) (nm : ByteArray) (k : Nat) (dk : Nd) (e : Ending) (w' : World) : Prop :=
  e = .returned .nilIface ∧ Rep B w' (T.pruned i di nm k dk) ∧ Kept T.foot w w' ∧ ∀ x, (T.pruned i di nm k dk).foot x → T.foot x

set_option maxRecDepth 100000 in
set_option maxHeartbeats 2000000 in
theorem remove_dir {E : Nat → Addr} {B : Nat} {T : Tr} (p : ByteArray) (w : World) (hE : Ctx E B w) (hR : Rep B w T) (hsz : p.size ≤ 9223372036854775807) (hck0 : 0 ≤ T.clock) (hck : T.clock ≤ 1152921504606846976) (s : Spot) (hf : T.find p = .ok s)
    (i k : Nat) (hin : s.inn = some i) (hk : s.n = some k) (di dk : Nd) (hdi : T.nd i = some di) (hdir : di.dir = true) (hdk : T.nd k = some dk) (hkd : dk.dir = true) (hbare : dk.names = []) (hlk : look di.names s.name = some k) (hl0 : 0 ≤ dk.links) (hl1 : dk.links ≤ 1152921504606846976) (hn0 : 0 ≤ T.count) (hn1 : T.count ≤ 1152921504606846976) (hik : i ≠ k) (hroot : T.root ≠ k) (hone : dk.dir = true → ∀ n d s', T.nd n = some d → (s', k) ∈ d.names → n = i ∧ s' = s.name) :
    Calls Tryz.prog 19 #[.pointer (some ⟨T.tb, 0, none⟩), .string p] w fun e w' => PrunedPost B w T i di s.name k dk e w' := by
  have HF := find_any p w hE hR hsz
  rw [hf] at HF
  have HC : Hid (Calls Tryz.prog 67 #[.pointer (some ⟨T.tb, 0, none⟩), .string p] w fun e w' => FindPost E w (.ok s) e w') := HF
  have HR := Lib.hid hR
  have HDI := Lib.hid hdi
  have HDIR := Lib.hid hdir
  have HDK := Lib.hid hdk
  have HKD := Lib.hid hkd
  have HBR := Lib.hid hbare
  obtain ⟨inn, nm, nn⟩ := s
  have hk' : nn = some k := hk
  have hi' : inn = some i := hin
  subst hk' hi'
  have HLK : Hid (look di.names nm = some k) := hlk
  have HONE : Hid (dk.dir = true → ∀ n d s', T.nd n = some d → (s', k) ∈ d.names → n = i ∧ s' = nm) := hone
  have HIK := Lib.hid hik
  have HRT := Lib.hid hroot
  clear HF hE hR hf hk hin hdi hdir hdk hkd hbare hlk hone hik hroot
  go_enter Tryz.func19, Tryz.ntmps19
  go_wp2_with fail
  refine HC.out.mono ?_
  rintro e w1 ⟨hb, rfl⟩
  have HB1 : Hid (Below w.heap.size w w1) := hb
  clear hb
  simp only [spotV, ptrV_some]
  obtain ⟨w3, hw3⟩ : ∃ w3, w3 = w1.alloc (.cells #[.pointer (some ⟨i, 0, none⟩), .string nm, .pointer (some ⟨k, 0, none⟩)] 135) := ⟨_, rfl⟩
  have HW3 := Lib.hid hw3
  have HB3 : Hid (Below w.heap.size w w3) := by rw [hw3]; exact HB1.out.alloc HB1.out.size _
  have HS3 : Hid (w3.heap[w1.heap.size]? = some (.cells #[.pointer (some ⟨i, 0, none⟩), .string nm, .pointer (some ⟨k, 0, none⟩)] 135 (0, 0))) := by rw [hw3]; exact heap_alloc_new w1 _
  clear hw3
  go_upto_region 2 with fail
  rw [← HW3.out]
  clear HW3 HB1
  generalize w1.heap.size = sb at *
  have HRP := Lib.hid (HR.out.below HB3.out)
  have HNK := Lib.hid (HRP.out.node k dk HDK.out)
  have HNI := Lib.hid (HRP.out.node i di HDI.out)
  have s0 := cell_of (o := 0) HS3.out rfl
  have s1 := cell_of (o := 1) HS3.out rfl
  have s2 := cell_of (o := 2) HS3.out rfl
  have k0 : w3.cell? ⟨k, 0, none⟩ = some (.bool true) := by
    have h1 : w3.cell? ⟨k, 0, none⟩ = some (.bool dk.dir) := cell_of HNK.out.cells rfl
    rw [h1, HKD.out]
  have k2 : w3.cell? ⟨k, 2, none⟩ = some (.map (some dk.mb)) := by
    have h1 : w3.cell? ⟨k, 2, none⟩ = some (mapV dk) := cell_of HNK.out.cells rfl
    rw [h1]; simp [mapV, HKD.out]
  have i2 : w3.cell? ⟨i, 2, none⟩ = some (.map (some di.mb)) := by
    have h1 : w3.cell? ⟨i, 2, none⟩ = some (mapV di) := cell_of HNI.out.cells rfl
    rw [h1]; simp [mapV, HDIR.out]
  obtain ⟨es, ck, hes, hkv, _⟩ := HNK.out.map HKD.out
  have hpos : es.size = 0 := by
    have h1 := congrArg List.length hkv
    rw [HBR.out] at h1
    simpa using h1
  clear hkv
  have hun : Tryz.prog.underlying 124 = some (.map (Tryz.prog.mapKeyOf 124) (Tryz.prog.mapElemOf 124)) := by kernel_rfl
  have hlen := run_len_map (P := Tryz.prog) (w := w3) 124 3 dk.mb es ck hun hes
  rw [hpos] at hlen
  go_upto_region 8 with fail
  have HWM : Hid (MapAt w3.drew di.mb di.names) := (HNI.out.map HDIR.out).kept (Kept.of_below (Below.refl _ w3).drew (fun _ => False)) (fun hf => hf)
  obtain ⟨w4, hrun, hm4, hk4⟩ := run_delete_names HWM.out nm HLK.out
  have HM4 := Lib.hid hm4
  have HK4 : Hid (Kept (fun b => b = di.mb) w3 w4) := ⟨hk4.os, hk4.tape, hk4.output, hk4.size, hk4.block⟩
  clear hm4 hk4
  go_region
  clear hrun i2 s1 hlen hun k2
  have HES : Hid (∃ es ck, w3.heap[di.mb]? = some (.map es ck)) := let ⟨es, ck, h, _⟩ := HNI.out.map HDIR.out; ⟨es, ck, h⟩
  have HOLD : Hid (∀ (b : Nat) (c : Array Value) (t : TypeId) (f : Nat × Nat), w3.heap[b]? = some (Obj.cells c t f) → w4.heap[b]? = some (Obj.cells c t f)) := fun b c T f h => by
    obtain ⟨es, ck, hes⟩ := HES.out
    exact (HK4.out.block b (lt_of_heap h) (cells_ne_map h hes)).trans h
  have HT4 := Lib.hid (HOLD.out _ _ _ _ HRP.out.tree)
  have HI4 := Lib.hid (HOLD.out _ _ _ _ HNI.out.cells)
  have HN4 := Lib.hid (HOLD.out _ _ _ _ HNK.out.cells)
  have HS4 := Lib.hid (HOLD.out _ _ _ _ HS3.out)
  clear s0 s2 k0 hes hpos
  have s2 := cell_of (o := 2) HS4.out rfl
  have k3 := cell_of (o := 3) HN4.out rfl
  have kf := fun o => free_of HN4.out o
  go_upto_region 10 with fail
  clear s2 k3 kf HOLD
  have HN5 : Hid ((w4.setCell ⟨k, 3, none⟩ (.int .i64 (dk.links - 1))).heap[k]? = some (.cells #[.bool dk.dir, dk.bv, mapV dk, .int .i64 (dk.links - 1), .int .i64 dk.tick] 126 (0, 0))) := heap_set_same HN4.out 3 _
  have HT5 : Hid ((w4.setCell ⟨k, 3, none⟩ (.int .i64 (dk.links - 1))).heap[T.tb]? = _) := (heap_set_other w4 _ _ (cells_ne_type HT4.out HN4.out (by decide))).trans HT4.out
  have HI5 : Hid ((w4.setCell ⟨k, 3, none⟩ (.int .i64 (dk.links - 1))).heap[i]? = _) := (heap_set_other w4 _ _ HIK.out).trans HI4.out
  have HS5 : Hid ((w4.setCell ⟨k, 3, none⟩ (.int .i64 (dk.links - 1))).heap[sb]? = _) := (heap_set_other w4 _ _ (cells_ne_type HS4.out HN4.out (by decide))).trans HS4.out
  have HK5 : Hid (Kept (fun x => x = T.tb ∨ x = i ∨ x = di.mb ∨ x = k) w (w4.setCell ⟨k, 3, none⟩ (.int .i64 (dk.links - 1)))) := ((Kept.of_below HB3.out _).trans HK4.out (fun b h => .inl (.inr (.inr (.inl h))))).setCell (p := ⟨k, 3, none⟩) (.inl (.inr (.inr (.inr rfl)))) _
  have HM5 : Hid (MapAt (w4.setCell ⟨k, 3, none⟩ (.int .i64 (dk.links - 1))) di.mb (di.names.filter fun p => !(nm == p.1))) := HM4.out.kept ((Kept.refl (fun b => b = k) w4).setCell (p := ⟨k, 3, none⟩) (.inl rfl) _) (fun h => by
    obtain ⟨es, ck, h1, _⟩ := HM4.out
    have h : di.mb = k := h
    exact cells_ne_map HN4.out h1 h.symm)
  generalize w4.setCell ⟨k, 3, none⟩ (.int .i64 (dk.links - 1)) = w5 at *
  clear HT4 HI4 HN4 HS4
  have s2 := cell_of (o := 2) HS5.out rfl
  have k0 : w5.cell? ⟨k, 0, none⟩ = some (.bool true) := by
    have h1 : w5.cell? ⟨k, 0, none⟩ = some (.bool dk.dir) := cell_of HN5.out rfl
    rw [h1, HKD.out]
  have t2 := cell_of (o := 2) HT5.out rfl
  have tf := fun o => free_of HT5.out o
  go_upto_region 12 with fail
  have HT6 : Hid ((w5.setCell ⟨T.tb, 2, none⟩ (.int .i64 (T.count - 1))).heap[T.tb]? = some (.cells #[ptrV (some T.root), .int .i64 T.clock, .int .i64 (T.count - 1)] 133 (0, 0))) := heap_set_same HT5.out 2 _
  have HI6 : Hid ((w5.setCell ⟨T.tb, 2, none⟩ (.int .i64 (T.count - 1))).heap[i]? = _) := (heap_set_other w5 _ _ (cells_ne_type HI5.out HT5.out (by decide))).trans HI5.out
  have HS6 : Hid ((w5.setCell ⟨T.tb, 2, none⟩ (.int .i64 (T.count - 1))).heap[sb]? = _) := (heap_set_other w5 _ _ (cells_ne_type HS5.out HT5.out (by decide))).trans HS5.out
  have HK6 : Hid (Kept (fun x => x = T.tb ∨ x = i ∨ x = di.mb ∨ x = k) w (w5.setCell ⟨T.tb, 2, none⟩ (.int .i64 (T.count - 1)))) := HK5.out.setCell (p := ⟨T.tb, 2, none⟩) (.inl (.inl rfl)) _
  have HM6 : Hid (MapAt (w5.setCell ⟨T.tb, 2, none⟩ (.int .i64 (T.count - 1))) di.mb (di.names.filter fun p => !(nm == p.1))) := HM5.out.kept ((Kept.refl (fun b => b = T.tb) w5).setCell (p := ⟨T.tb, 2, none⟩) (.inl rfl) _) (fun h => by
    obtain ⟨es, ck, h1, _⟩ := HM5.out
    have h : di.mb = T.tb := h
    exact cells_ne_map HT5.out h1 h.symm)
  generalize w5.setCell ⟨T.tb, 2, none⟩ (.int .i64 (T.count - 1)) = w6 at *
  clear s2 k0 t2 tf HT5 HI5 HS5
  have s0 := cell_of (o := 0) HS6.out rfl
  have HBA := Lib.hid (below_alloc w6 (.cells #[.pointer (some ⟨i, 0, none⟩)] 121))
  have HSA := Lib.hid (heap_alloc_new w6 (.cells #[.pointer (some ⟨i, 0, none⟩)] 121))
  go_wp2_with fail
  generalize w6.alloc (.cells #[.pointer (some ⟨i, 0, none⟩)] 121) = wA at *
  have HTA := Lib.hid (below_heap HBA.out (lt_of_heap HT6.out) HT6.out)
  have HIA := Lib.hid (below_heap HBA.out (lt_of_heap HI6.out) HI6.out)
  refine (tick1 hck0 hck HTA.out HIA.out HSA.out).mono ?_
  intro e w7 hp
  obtain ⟨rfl, hT7, hI7, hK7⟩ := hp
  have HT7 := Lib.hid hT7
  have HI7 := Lib.hid hI7
  have HK7 := Lib.hid hK7
  clear hT7 hI7 hK7
  have HX : Hid (PrunedPost B w T i di nm k dk (.returned .nilIface) w7) := by
    have hKK : Kept (fun x => x = T.tb ∨ x = i ∨ x = di.mb ∨ x = k) w w7 := (HK6.out.then_below HBA.out).trans HK7.out (fun b h => by
      rcases h with h | h
      · exact .inl (.inl h)
      · exact .inl (.inr (.inl h)))
    have hM7 : MapAt w7 di.mb (di.names.filter fun p => !(nm == p.1)) := (HM6.out.kept (Kept.of_below HBA.out (fun _ => False)) (fun h => h)).kept HK7.out (fun h => by
      obtain ⟨es, ck, h1, _⟩ := HM6.out
      rcases h with h | h
      · exact cells_ne_map HT6.out h1 h.symm
      · exact cells_ne_map HI6.out h1 h.symm)
    obtain ⟨q1, q2⟩ := pruned_rep HR.out HDI.out HDIR.out HDK.out HIK.out HRT.out HBR.out HONE.out hKK (by rw [if_pos (.inl HKD.out)]; exact HT7.out) HI7.out (fun h => by rw [HKD.out] at h; cases h) hM7
    refine ⟨rfl, q1, hKK.mono ?_, q2⟩
    rintro x (rfl | rfl | rfl | rfl)
    · exact .inl rfl
    · exact .inr (.inl ⟨di, HDI.out⟩)
    · exact .inr (.inr ⟨i, di, HDI.out, .inl ⟨HDIR.out, rfl⟩⟩)
    · exact .inr (.inl ⟨dk, HDK.out⟩)
  go_wp2_with fail
  go_ret
  exact HX.out
set_option maxRecDepth 100000 in
set_option maxHeartbeats 2000000 in
theorem remove_one {E : Nat → Addr} {B : Nat} {T : Tr} (p : ByteArray) (w : World) (hE : Ctx E B w) (hR : Rep B w T) (hsz : p.size ≤ 9223372036854775807) (hck0 : 0 ≤ T.clock) (hck : T.clock ≤ 1152921504606846976) (s : Spot) (hf : T.find p = .ok s)
    (i k : Nat) (hin : s.inn = some i) (hk : s.n = some k) (di dk : Nd) (hdi : T.nd i = some di) (hdir : di.dir = true) (hdk : T.nd k = some dk) (hkd : dk.dir = false) (hlk : look di.names s.name = some k) (hl : dk.links = 1) (hn0 : 0 ≤ T.count) (hn1 : T.count ≤ 1152921504606846976) (hik : i ≠ k) (hroot : T.root ≠ k) :
    Calls Tryz.prog 19 #[.pointer (some ⟨T.tb, 0, none⟩), .string p] w fun e w' => PrunedPost B w T i di s.name k dk e w' := by
  have HF := find_any p w hE hR hsz
  rw [hf] at HF
  have HC : Hid (Calls Tryz.prog 67 #[.pointer (some ⟨T.tb, 0, none⟩), .string p] w fun e w' => FindPost E w (.ok s) e w') := HF
  have HR := Lib.hid hR
  have HDI := Lib.hid hdi
  have HDIR := Lib.hid hdir
  have HDK := Lib.hid hdk
  have HLL := Lib.hid hl
  have hl0 : 0 ≤ dk.links := by omega
  have hl1 : dk.links ≤ 1152921504606846976 := by omega
  clear hl
  have HKD := Lib.hid hkd
  have HBR : Hid (dk.names = []) := (hR.node k dk hdk).file hkd
  obtain ⟨inn, nm, nn⟩ := s
  have hk' : nn = some k := hk
  have hi' : inn = some i := hin
  subst hk' hi'
  have HLK : Hid (look di.names nm = some k) := hlk
  have HIK := Lib.hid hik
  have HRT := Lib.hid hroot
  clear HF hE hR hf hk hin hdi hdir hdk hkd hlk hik hroot
  go_enter Tryz.func19, Tryz.ntmps19
  go_wp2_with fail
  refine HC.out.mono ?_
  rintro e w1 ⟨hb, rfl⟩
  have HB1 : Hid (Below w.heap.size w w1) := hb
  clear hb
  simp only [spotV, ptrV_some]
  obtain ⟨w3, hw3⟩ : ∃ w3, w3 = w1.alloc (.cells #[.pointer (some ⟨i, 0, none⟩), .string nm, .pointer (some ⟨k, 0, none⟩)] 135) := ⟨_, rfl⟩
  have HW3 := Lib.hid hw3
  have HB3 : Hid (Below w.heap.size w w3) := by rw [hw3]; exact HB1.out.alloc HB1.out.size _
  have HS3 : Hid (w3.heap[w1.heap.size]? = some (.cells #[.pointer (some ⟨i, 0, none⟩), .string nm, .pointer (some ⟨k, 0, none⟩)] 135 (0, 0))) := by rw [hw3]; exact heap_alloc_new w1 _
  clear hw3
  go_upto_region 2 with fail
  rw [← HW3.out]
  clear HW3 HB1
  generalize w1.heap.size = sb at *
  have HRP := Lib.hid (HR.out.below HB3.out)
  have HNK := Lib.hid (HRP.out.node k dk HDK.out)
  have HNI := Lib.hid (HRP.out.node i di HDI.out)
  have s0 := cell_of (o := 0) HS3.out rfl
  have s1 := cell_of (o := 1) HS3.out rfl
  have s2 := cell_of (o := 2) HS3.out rfl
  have k0 : w3.cell? ⟨k, 0, none⟩ = some (.bool false) := by
    have h1 : w3.cell? ⟨k, 0, none⟩ = some (.bool dk.dir) := cell_of HNK.out.cells rfl
    rw [h1, HKD.out]
  have i2 : w3.cell? ⟨i, 2, none⟩ = some (.map (some di.mb)) := by
    have h1 : w3.cell? ⟨i, 2, none⟩ = some (mapV di) := cell_of HNI.out.cells rfl
    rw [h1]; simp [mapV, HDIR.out]
  go_upto_region 8 with fail
  have HWM : Hid (MapAt w3.drew di.mb di.names) := (HNI.out.map HDIR.out).kept (Kept.of_below (Below.refl _ w3).drew (fun _ => False)) (fun hf => hf)
  obtain ⟨w4, hrun, hm4, hk4⟩ := run_delete_names HWM.out nm HLK.out
  have HM4 := Lib.hid hm4
  have HK4 : Hid (Kept (fun b => b = di.mb) w3 w4) := ⟨hk4.os, hk4.tape, hk4.output, hk4.size, hk4.block⟩
  clear hm4 hk4
  go_region
  clear hrun i2 s1
  have HES : Hid (∃ es ck, w3.heap[di.mb]? = some (.map es ck)) := let ⟨es, ck, h, _⟩ := HNI.out.map HDIR.out; ⟨es, ck, h⟩
  have HOLD : Hid (∀ (b : Nat) (c : Array Value) (t : TypeId) (f : Nat × Nat), w3.heap[b]? = some (Obj.cells c t f) → w4.heap[b]? = some (Obj.cells c t f)) := fun b c T f h => by
    obtain ⟨es, ck, hes⟩ := HES.out
    exact (HK4.out.block b (lt_of_heap h) (cells_ne_map h hes)).trans h
  have HT4 := Lib.hid (HOLD.out _ _ _ _ HRP.out.tree)
  have HI4 := Lib.hid (HOLD.out _ _ _ _ HNI.out.cells)
  have HN4 := Lib.hid (HOLD.out _ _ _ _ HNK.out.cells)
  have HS4 := Lib.hid (HOLD.out _ _ _ _ HS3.out)
  clear s0 s2 k0
  have s2 := cell_of (o := 2) HS4.out rfl
  have k3 := cell_of (o := 3) HN4.out rfl
  have kf := fun o => free_of HN4.out o
  go_upto_region 10 with fail
  clear s2 k3 kf HOLD
  have HN5 : Hid ((w4.setCell ⟨k, 3, none⟩ (.int .i64 (dk.links - 1))).heap[k]? = some (.cells #[.bool dk.dir, dk.bv, mapV dk, .int .i64 (dk.links - 1), .int .i64 dk.tick] 126 (0, 0))) := heap_set_same HN4.out 3 _
  have HT5 : Hid ((w4.setCell ⟨k, 3, none⟩ (.int .i64 (dk.links - 1))).heap[T.tb]? = _) := (heap_set_other w4 _ _ (cells_ne_type HT4.out HN4.out (by decide))).trans HT4.out
  have HI5 : Hid ((w4.setCell ⟨k, 3, none⟩ (.int .i64 (dk.links - 1))).heap[i]? = _) := (heap_set_other w4 _ _ HIK.out).trans HI4.out
  have HS5 : Hid ((w4.setCell ⟨k, 3, none⟩ (.int .i64 (dk.links - 1))).heap[sb]? = _) := (heap_set_other w4 _ _ (cells_ne_type HS4.out HN4.out (by decide))).trans HS4.out
  have HK5 : Hid (Kept (fun x => x = T.tb ∨ x = i ∨ x = di.mb ∨ x = k) w (w4.setCell ⟨k, 3, none⟩ (.int .i64 (dk.links - 1)))) := ((Kept.of_below HB3.out _).trans HK4.out (fun b h => .inl (.inr (.inr (.inl h))))).setCell (p := ⟨k, 3, none⟩) (.inl (.inr (.inr (.inr rfl)))) _
  have HM5 : Hid (MapAt (w4.setCell ⟨k, 3, none⟩ (.int .i64 (dk.links - 1))) di.mb (di.names.filter fun p => !(nm == p.1))) := HM4.out.kept ((Kept.refl (fun b => b = k) w4).setCell (p := ⟨k, 3, none⟩) (.inl rfl) _) (fun h => by
    obtain ⟨es, ck, h1, _⟩ := HM4.out
    have h : di.mb = k := h
    exact cells_ne_map HN4.out h1 h.symm)
  generalize w4.setCell ⟨k, 3, none⟩ (.int .i64 (dk.links - 1)) = w5 at *
  clear HT4 HI4 HN4 HS4
  have s2 := cell_of (o := 2) HS5.out rfl
  have k0 : w5.cell? ⟨k, 0, none⟩ = some (.bool false) := by
    have h1 : w5.cell? ⟨k, 0, none⟩ = some (.bool dk.dir) := cell_of HN5.out rfl
    rw [h1, HKD.out]
  have k3 : w5.cell? ⟨k, 3, none⟩ = some (.int .i64 0) := by
    have h1 : w5.cell? ⟨k, 3, none⟩ = some (.int .i64 (dk.links - 1)) := cell_of HN5.out rfl
    rw [h1, HLL.out]; rfl
  have t2 := cell_of (o := 2) HT5.out rfl
  have tf := fun o => free_of HT5.out o
  go_upto_region 12 with fail
  have HT6 : Hid ((w5.setCell ⟨T.tb, 2, none⟩ (.int .i64 (T.count - 1))).heap[T.tb]? = some (.cells #[ptrV (some T.root), .int .i64 T.clock, .int .i64 (T.count - 1)] 133 (0, 0))) := heap_set_same HT5.out 2 _
  have HI6 : Hid ((w5.setCell ⟨T.tb, 2, none⟩ (.int .i64 (T.count - 1))).heap[i]? = _) := (heap_set_other w5 _ _ (cells_ne_type HI5.out HT5.out (by decide))).trans HI5.out
  have HS6 : Hid ((w5.setCell ⟨T.tb, 2, none⟩ (.int .i64 (T.count - 1))).heap[sb]? = _) := (heap_set_other w5 _ _ (cells_ne_type HS5.out HT5.out (by decide))).trans HS5.out
  have HN6 : Hid ((w5.setCell ⟨T.tb, 2, none⟩ (.int .i64 (T.count - 1))).heap[k]? = _) := (heap_set_other w5 _ _ (cells_ne_type HN5.out HT5.out (by decide))).trans HN5.out
  have HK6 : Hid (Kept (fun x => x = T.tb ∨ x = i ∨ x = di.mb ∨ x = k) w (w5.setCell ⟨T.tb, 2, none⟩ (.int .i64 (T.count - 1)))) := HK5.out.setCell (p := ⟨T.tb, 2, none⟩) (.inl (.inl rfl)) _
  have HM6 : Hid (MapAt (w5.setCell ⟨T.tb, 2, none⟩ (.int .i64 (T.count - 1))) di.mb (di.names.filter fun p => !(nm == p.1))) := HM5.out.kept ((Kept.refl (fun b => b = T.tb) w5).setCell (p := ⟨T.tb, 2, none⟩) (.inl rfl) _) (fun h => by
    obtain ⟨es, ck, h1, _⟩ := HM5.out
    have h : di.mb = T.tb := h
    exact cells_ne_map HT5.out h1 h.symm)
  generalize w5.setCell ⟨T.tb, 2, none⟩ (.int .i64 (T.count - 1)) = w6 at *
  clear s2 k0 k3 t2 tf HT5 HI5 HS5
  have s0 := cell_of (o := 0) HS6.out rfl
  have HBA := Lib.hid (below_alloc w6 (.cells #[.pointer (some ⟨i, 0, none⟩)] 121))
  have HSA := Lib.hid (heap_alloc_new w6 (.cells #[.pointer (some ⟨i, 0, none⟩)] 121))
  go_wp2_with fail
  generalize w6.alloc (.cells #[.pointer (some ⟨i, 0, none⟩)] 121) = wA at *
  have HTA := Lib.hid (below_heap HBA.out (lt_of_heap HT6.out) HT6.out)
  have HNA := Lib.hid (below_heap HBA.out (lt_of_heap HN6.out) HN6.out)
  have HIA := Lib.hid (below_heap HBA.out (lt_of_heap HI6.out) HI6.out)
  refine (tick1 hck0 hck HTA.out HIA.out HSA.out).mono ?_
  intro e w7 hp
  obtain ⟨rfl, hT7, hI7, hK7⟩ := hp
  have HT7 := Lib.hid hT7
  have HI7 := Lib.hid hI7
  have HK7 := Lib.hid hK7
  clear hT7 hI7 hK7
  have HX : Hid (PrunedPost B w T i di nm k dk (.returned .nilIface) w7) := by
    have hKK : Kept (fun x => x = T.tb ∨ x = i ∨ x = di.mb ∨ x = k) w w7 := (HK6.out.then_below HBA.out).trans HK7.out (fun b h => by
      rcases h with h | h
      · exact .inl (.inl h)
      · exact .inl (.inr (.inl h)))
    have hM7 : MapAt w7 di.mb (di.names.filter fun p => !(nm == p.1)) := (HM6.out.kept (Kept.of_below HBA.out (fun _ => False)) (fun h => h)).kept HK7.out (fun h => by
      obtain ⟨es, ck, h1, _⟩ := HM6.out
      rcases h with h | h
      · exact cells_ne_map HT6.out h1 h.symm
      · exact cells_ne_map HI6.out h1 h.symm)
    have hN7 := (HK7.out.block k (lt_of_heap HNA.out) (fun h => by
      rcases h with h | h
      · exact cells_ne_type HNA.out HTA.out (by decide) h
      · exact HIK.out h.symm)).trans HNA.out
    obtain ⟨q1, q2⟩ := pruned_rep HR.out HDI.out HDIR.out HDK.out HIK.out HRT.out HBR.out (fun h => by rw [HKD.out] at h; cases h) hKK (by rw [if_pos (.inr HLL.out)]; exact HT7.out) HI7.out (fun _ => hN7) hM7
    refine ⟨rfl, q1, hKK.mono ?_, q2⟩
    rintro x (rfl | rfl | rfl | rfl)
    · exact .inl rfl
    · exact .inr (.inl ⟨di, HDI.out⟩)
    · exact .inr (.inr ⟨i, di, HDI.out, .inl ⟨HDIR.out, rfl⟩⟩)
    · exact .inr (.inl ⟨dk, HDK.out⟩)
  go_wp2_with fail
  go_ret
  exact HX.out

set_option maxRecDepth 100000 in
set_option maxHeartbeats 2000000 in
theorem remove_more {E : Nat → Addr} {B : Nat} {T : Tr} (p : ByteArray) (w : World) (hE : Ctx E B w) (hR : Rep B w T) (hsz : p.size ≤ 9223372036854775807) (hck0 : 0 ≤ T.clock) (hck : T.clock ≤ 1152921504606846976) (s : Spot) (hf : T.find p = .ok s)
    (i k : Nat) (hin : s.inn = some i) (hk : s.n = some k) (di dk : Nd) (hdi : T.nd i = some di) (hdir : di.dir = true) (hdk : T.nd k = some dk) (hkd : dk.dir = false) (hlk : look di.names s.name = some k) (hl0 : 0 ≤ dk.links) (hl1 : dk.links ≤ 1152921504606846976) (hl : dk.links ≠ 1) (hik : i ≠ k) (hroot : T.root ≠ k) :
    Calls Tryz.prog 19 #[.pointer (some ⟨T.tb, 0, none⟩), .string p] w fun e w' => PrunedPost B w T i di s.name k dk e w' := by
  have HF := find_any p w hE hR hsz
  rw [hf] at HF
  have HC : Hid (Calls Tryz.prog 67 #[.pointer (some ⟨T.tb, 0, none⟩), .string p] w fun e w' => FindPost E w (.ok s) e w') := HF
  have HR := Lib.hid hR
  have HDI := Lib.hid hdi
  have HDIR := Lib.hid hdir
  have HDK := Lib.hid hdk
  have HLL := Lib.hid hl
  have hlm : ¬ dk.links - 1 = 0 := by omega
  clear hl
  have HKD := Lib.hid hkd
  have HBR : Hid (dk.names = []) := (hR.node k dk hdk).file hkd
  obtain ⟨inn, nm, nn⟩ := s
  have hk' : nn = some k := hk
  have hi' : inn = some i := hin
  subst hk' hi'
  have HLK : Hid (look di.names nm = some k) := hlk
  have HIK := Lib.hid hik
  have HRT := Lib.hid hroot
  clear HF hE hR hf hk hin hdi hdir hdk hkd hlk hik hroot
  go_enter Tryz.func19, Tryz.ntmps19
  go_wp2_with fail
  refine HC.out.mono ?_
  rintro e w1 ⟨hb, rfl⟩
  have HB1 : Hid (Below w.heap.size w w1) := hb
  clear hb
  simp only [spotV, ptrV_some]
  obtain ⟨w3, hw3⟩ : ∃ w3, w3 = w1.alloc (.cells #[.pointer (some ⟨i, 0, none⟩), .string nm, .pointer (some ⟨k, 0, none⟩)] 135) := ⟨_, rfl⟩
  have HW3 := Lib.hid hw3
  have HB3 : Hid (Below w.heap.size w w3) := by rw [hw3]; exact HB1.out.alloc HB1.out.size _
  have HS3 : Hid (w3.heap[w1.heap.size]? = some (.cells #[.pointer (some ⟨i, 0, none⟩), .string nm, .pointer (some ⟨k, 0, none⟩)] 135 (0, 0))) := by rw [hw3]; exact heap_alloc_new w1 _
  clear hw3
  go_upto_region 2 with fail
  rw [← HW3.out]
  clear HW3 HB1
  generalize w1.heap.size = sb at *
  have HRP := Lib.hid (HR.out.below HB3.out)
  have HNK := Lib.hid (HRP.out.node k dk HDK.out)
  have HNI := Lib.hid (HRP.out.node i di HDI.out)
  have s0 := cell_of (o := 0) HS3.out rfl
  have s1 := cell_of (o := 1) HS3.out rfl
  have s2 := cell_of (o := 2) HS3.out rfl
  have k0 : w3.cell? ⟨k, 0, none⟩ = some (.bool false) := by
    have h1 : w3.cell? ⟨k, 0, none⟩ = some (.bool dk.dir) := cell_of HNK.out.cells rfl
    rw [h1, HKD.out]
  have i2 : w3.cell? ⟨i, 2, none⟩ = some (.map (some di.mb)) := by
    have h1 : w3.cell? ⟨i, 2, none⟩ = some (mapV di) := cell_of HNI.out.cells rfl
    rw [h1]; simp [mapV, HDIR.out]
  go_upto_region 8 with fail
  have HWM : Hid (MapAt w3.drew di.mb di.names) := (HNI.out.map HDIR.out).kept (Kept.of_below (Below.refl _ w3).drew (fun _ => False)) (fun hf => hf)
  obtain ⟨w4, hrun, hm4, hk4⟩ := run_delete_names HWM.out nm HLK.out
  have HM4 := Lib.hid hm4
  have HK4 : Hid (Kept (fun b => b = di.mb) w3 w4) := ⟨hk4.os, hk4.tape, hk4.output, hk4.size, hk4.block⟩
  clear hm4 hk4
  go_region
  clear hrun i2 s1
  have HES : Hid (∃ es ck, w3.heap[di.mb]? = some (.map es ck)) := let ⟨es, ck, h, _⟩ := HNI.out.map HDIR.out; ⟨es, ck, h⟩
  have HOLD : Hid (∀ (b : Nat) (c : Array Value) (t : TypeId) (f : Nat × Nat), w3.heap[b]? = some (Obj.cells c t f) → w4.heap[b]? = some (Obj.cells c t f)) := fun b c T f h => by
    obtain ⟨es, ck, hes⟩ := HES.out
    exact (HK4.out.block b (lt_of_heap h) (cells_ne_map h hes)).trans h
  have HT4 := Lib.hid (HOLD.out _ _ _ _ HRP.out.tree)
  have HI4 := Lib.hid (HOLD.out _ _ _ _ HNI.out.cells)
  have HN4 := Lib.hid (HOLD.out _ _ _ _ HNK.out.cells)
  have HS4 := Lib.hid (HOLD.out _ _ _ _ HS3.out)
  clear s0 s2 k0
  have s2 := cell_of (o := 2) HS4.out rfl
  have k3 := cell_of (o := 3) HN4.out rfl
  have kf := fun o => free_of HN4.out o
  go_upto_region 10 with fail
  clear s2 k3 kf HOLD
  have HN5 : Hid ((w4.setCell ⟨k, 3, none⟩ (.int .i64 (dk.links - 1))).heap[k]? = some (.cells #[.bool dk.dir, dk.bv, mapV dk, .int .i64 (dk.links - 1), .int .i64 dk.tick] 126 (0, 0))) := heap_set_same HN4.out 3 _
  have HT5 : Hid ((w4.setCell ⟨k, 3, none⟩ (.int .i64 (dk.links - 1))).heap[T.tb]? = _) := (heap_set_other w4 _ _ (cells_ne_type HT4.out HN4.out (by decide))).trans HT4.out
  have HI5 : Hid ((w4.setCell ⟨k, 3, none⟩ (.int .i64 (dk.links - 1))).heap[i]? = _) := (heap_set_other w4 _ _ HIK.out).trans HI4.out
  have HS5 : Hid ((w4.setCell ⟨k, 3, none⟩ (.int .i64 (dk.links - 1))).heap[sb]? = _) := (heap_set_other w4 _ _ (cells_ne_type HS4.out HN4.out (by decide))).trans HS4.out
  have HK5 : Hid (Kept (fun x => x = T.tb ∨ x = i ∨ x = di.mb ∨ x = k) w (w4.setCell ⟨k, 3, none⟩ (.int .i64 (dk.links - 1)))) := ((Kept.of_below HB3.out _).trans HK4.out (fun b h => .inl (.inr (.inr (.inl h))))).setCell (p := ⟨k, 3, none⟩) (.inl (.inr (.inr (.inr rfl)))) _
  have HM5 : Hid (MapAt (w4.setCell ⟨k, 3, none⟩ (.int .i64 (dk.links - 1))) di.mb (di.names.filter fun p => !(nm == p.1))) := HM4.out.kept ((Kept.refl (fun b => b = k) w4).setCell (p := ⟨k, 3, none⟩) (.inl rfl) _) (fun h => by
    obtain ⟨es, ck, h1, _⟩ := HM4.out
    have h : di.mb = k := h
    exact cells_ne_map HN4.out h1 h.symm)
  generalize w4.setCell ⟨k, 3, none⟩ (.int .i64 (dk.links - 1)) = w5 at *
  clear HT4 HI4 HN4 HS4
  have s2 := cell_of (o := 2) HS5.out rfl
  have k0 : w5.cell? ⟨k, 0, none⟩ = some (.bool false) := by
    have h1 : w5.cell? ⟨k, 0, none⟩ = some (.bool dk.dir) := cell_of HN5.out rfl
    rw [h1, HKD.out]
  have k3 := cell_of (o := 3) HN5.out rfl
  have t2 := cell_of (o := 2) HT5.out rfl
  have tf := fun o => free_of HT5.out o
  go_upto_region 12 with fail
  have HT6 := Lib.hid HT5.out
  have HI6 := Lib.hid HI5.out
  have HS6 := Lib.hid HS5.out
  have HN6 := Lib.hid HN5.out
  have HK6 := Lib.hid HK5.out
  have HM6 := Lib.hid HM5.out
  clear HK5 HM5 HN5
  generalize w5 = w6 at *
  clear s2 k0 k3 t2 tf HT5 HI5 HS5
  have s0 := cell_of (o := 0) HS6.out rfl
  have HBA := Lib.hid (below_alloc w6 (.cells #[.pointer (some ⟨i, 0, none⟩)] 121))
  have HSA := Lib.hid (heap_alloc_new w6 (.cells #[.pointer (some ⟨i, 0, none⟩)] 121))
  go_wp2_with fail
  generalize w6.alloc (.cells #[.pointer (some ⟨i, 0, none⟩)] 121) = wA at *
  have HTA := Lib.hid (below_heap HBA.out (lt_of_heap HT6.out) HT6.out)
  have HNA := Lib.hid (below_heap HBA.out (lt_of_heap HN6.out) HN6.out)
  have HIA := Lib.hid (below_heap HBA.out (lt_of_heap HI6.out) HI6.out)
  refine (tick1 hck0 hck HTA.out HIA.out HSA.out).mono ?_
  intro e w7 hp
  obtain ⟨rfl, hT7, hI7, hK7⟩ := hp
  have HT7 := Lib.hid hT7
  have HI7 := Lib.hid hI7
  have HK7 := Lib.hid hK7
  clear hT7 hI7 hK7
  have HX : Hid (PrunedPost B w T i di nm k dk (.returned .nilIface) w7) := by
    have hKK : Kept (fun x => x = T.tb ∨ x = i ∨ x = di.mb ∨ x = k) w w7 := (HK6.out.then_below HBA.out).trans HK7.out (fun b h => by
      rcases h with h | h
      · exact .inl (.inl h)
      · exact .inl (.inr (.inl h)))
    have hM7 : MapAt w7 di.mb (di.names.filter fun p => !(nm == p.1)) := (HM6.out.kept (Kept.of_below HBA.out (fun _ => False)) (fun h => h)).kept HK7.out (fun h => by
      obtain ⟨es, ck, h1, _⟩ := HM6.out
      rcases h with h | h
      · exact cells_ne_map HT6.out h1 h.symm
      · exact cells_ne_map HI6.out h1 h.symm)
    have hN7 := (HK7.out.block k (lt_of_heap HNA.out) (fun h => by
      rcases h with h | h
      · exact cells_ne_type HNA.out HTA.out (by decide) h
      · exact HIK.out h.symm)).trans HNA.out
    obtain ⟨q1, q2⟩ := pruned_rep HR.out HDI.out HDIR.out HDK.out HIK.out HRT.out HBR.out (fun h => by rw [HKD.out] at h; cases h) hKK (by rw [if_neg (by rintro (h | h); rw [HKD.out] at h; cases h; exact HLL.out h)]; simpa using HT7.out) HI7.out (fun _ => hN7) hM7
    refine ⟨rfl, q1, hKK.mono ?_, q2⟩
    rintro x (rfl | rfl | rfl | rfl)
    · exact .inl rfl
    · exact .inr (.inl ⟨di, HDI.out⟩)
    · exact .inr (.inr ⟨i, di, HDI.out, .inl ⟨HDIR.out, rfl⟩⟩)
    · exact .inr (.inl ⟨dk, HDK.out⟩)
  go_wp2_with fail
  go_ret
  exact HX.out
end

section
set_option maxRecDepth 100000 in
set_option maxHeartbeats 1000000 in
theorem link_err {E : Nat → Addr} {B : Nat} {T : Tr} (old p : ByteArray) (w : World) (hE : Ctx E B w) (hR : Rep B w T) (hso : old.size ≤ 9223372036854775807) (c : Nat) (hf : T.fileOf old = .error c) :
    Calls Tryz.prog 25 #[.pointer (some ⟨T.tb, 0, none⟩), .string old, .string p] w fun e w' => TErr E w c e w' := by
  have HF := tree_file old w hE hR hso
  rw [hf] at HF
  have HC : Hid (Calls Tryz.prog 71 #[.pointer (some ⟨T.tb, 0, none⟩), .string old] w fun e w' => PutNo E w c e w') := HF
  clear HF hE hR hf
  go_enter Tryz.func25, Tryz.ntmps25
  go_wp2_with fail
  refine HC.out.mono ?_
  rintro e w1 ⟨a, rfl, hfl, hb⟩
  have HB : Hid (Below w.heap.size w w1) := hb
  have HFL : Hid (Failed E w.heap.size w1 a c) := hfl
  clear hb hfl
  go_wp2_with fail
  go_ret
  exact ⟨a, rfl, HFL.out, HB.out⟩

set_option maxRecDepth 100000 in
set_option maxHeartbeats 1000000 in
theorem link_err2 {E : Nat → Addr} {B : Nat} {T : Tr} (old p : ByteArray) (w : World) (hE : Ctx E B w) (hR : Rep B w T) (hso : old.size ≤ 9223372036854775807) (hsz : p.size ≤ 9223372036854775807) (k : Nat) (hk : T.fileOf old = .ok k) (c : Nat) (hf : T.find p = .error c) :
    Calls Tryz.prog 25 #[.pointer (some ⟨T.tb, 0, none⟩), .string old, .string p] w fun e w' => TErr E w c e w' := by
  have HF := tree_file old w hE hR hso
  rw [hk] at HF
  have HC : Hid (Calls Tryz.prog 71 #[.pointer (some ⟨T.tb, 0, none⟩), .string old] w fun e w' => e = .returned (.tuple #[.pointer (some ⟨k, 0, none⟩), .nilIface]) ∧ Below w.heap.size w w') := HF
  have HC2 : Hid (∀ W, Below w.heap.size w W → Calls Tryz.prog 67 #[.pointer (some ⟨T.tb, 0, none⟩), .string p] W fun e w' => FindPost E W (.error c) e w') := fun W hW => by
    have h := find_any p W (hE.below hW) (hR.below hW) hsz
    rw [hf] at h
    exact h
  clear HF hE hR hf hk
  go_enter Tryz.func25, Tryz.ntmps25
  go_wp2_with fail
  refine HC.out.mono ?_
  rintro e w1 ⟨rfl, hb⟩
  have HB : Hid (Below w.heap.size w w1) := hb
  clear hb
  go_wp2_with fail
  refine (HC2.out w1 HB.out).mono ?_
  rintro e w2 ⟨hb2, a, rfl, hfl⟩
  have HB2 : Hid (Below w.heap.size w w2) := below_trans HB.out hb2
  have HFL : Hid (Failed E w.heap.size w2 a c) := hfl.mono HB.out.size
  clear hb2 hfl
  simp only [spotV, spot0, ptrV_none]
  go_wp2_with fail
  go_ret
  exact ⟨a, rfl, HFL.out.kept (Kept.of_below (below_alloc w2 _) (fun _ => False)) (fun _ h => h.elim), below_trans HB2.out (below_alloc w2 _)⟩

set_option maxRecDepth 100000 in
set_option maxHeartbeats 1000000 in
theorem link_there {E : Nat → Addr} {B : Nat} {T : Tr} (old p : ByteArray) (w : World) (hE : Ctx E B w) (hR : Rep B w T) (hso : old.size ≤ 9223372036854775807) (hsz : p.size ≤ 9223372036854775807) (k : Nat) (hk : T.fileOf old = .ok k) (s : Spot) (hf : T.find p = .ok s) (q : Nat) (hq : s.n = some q) :
    Calls Tryz.prog 25 #[.pointer (some ⟨T.tb, 0, none⟩), .string old, .string p] w fun e w' => TErr E w 18 e w' := by
  have HF := tree_file old w hE hR hso
  rw [hk] at HF
  have HC : Hid (Calls Tryz.prog 71 #[.pointer (some ⟨T.tb, 0, none⟩), .string old] w fun e w' => e = .returned (.tuple #[.pointer (some ⟨k, 0, none⟩), .nilIface]) ∧ Below w.heap.size w w') := HF
  have HC2 : Hid (∀ W, Below w.heap.size w W → Calls Tryz.prog 67 #[.pointer (some ⟨T.tb, 0, none⟩), .string p] W fun e w' => FindPost E W (.ok s) e w') := fun W hW => by
    have h := find_any p W (hE.below hW) (hR.below hW) hsz
    rw [hf] at h
    exact h
  have HE := Lib.hid hE
  clear HF hE hR hf hk
  obtain ⟨inn, nm, nn⟩ := s
  have hk' : nn = some q := hq
  subst hk'
  clear hq
  go_enter Tryz.func25, Tryz.ntmps25
  go_wp2_with fail
  refine HC.out.mono ?_
  rintro e w1 ⟨rfl, hb⟩
  have HB : Hid (Below w.heap.size w w1) := hb
  clear hb
  go_wp2_with fail
  refine (HC2.out w1 HB.out).mono ?_
  rintro e w2 ⟨hb2, rfl⟩
  have HB2 : Hid (Below w.heap.size w w2) := below_trans HB.out hb2
  clear hb2
  rcases inn with _ | j <;> simp only [spotV, ptrV_some, ptrV_none]
  all_goals
    go_wp2_with fail
    have HB3 := Lib.hid (fun o => below_trans HB2.out (below_alloc w2 o))
    refine (tree_fail _ (HE.out.env.below (HB3.out _)) 18 (by unfold Used; omega)).mono ?_
    rintro e w4 ⟨a, rfl, hfl, hb4⟩
    have HFL := Lib.hid (hfl.mono (HB3.out _).size)
    have HB4 := Lib.hid (below_trans (HB3.out _) hb4)
    clear hfl hb4
    go_wp2_with fail
    go_ret
    exact ⟨a, rfl, HFL.out, HB4.out⟩

/-- One more name of a file. -/
def Tr.linkTo (T : Tr) (i : Nat) (di : Nd) (nm : ByteArray) (k : Nat) (dk : Nd) : Tr :=
  { T with clock := T.clock + 1, nd := fun x => if x = k then some { dk with links := dk.links + 1 } else if x = i then some { di with names := di.names ++ [(nm, k)], tick := T.clock + 1 } else T.nd x }
def LinkNew (B : Nat) (w : World) (T : Tr) (i : Nat) (di : Nd) (nm : ByteArray) (k : Nat) (dk : Nd) (e : Ending) (w' : World) : Prop :=
  e = .returned .nilIface ∧ Rep B w' (T.linkTo i di nm k dk) ∧ Kept T.foot w w' ∧ ∀ x, (T.linkTo i di nm k dk).foot x → T.foot x

theorem linkTo_rep {B : Nat} {w w' : World} {T : Tr} (hR : Rep B w T) {i k : Nat} {di dk : Nd} {nm : ByteArray} (hdi : T.nd i = some di) (hdir : di.dir = true) (hdk : T.nd k = some dk) (hfl : dk.dir = false)
    (hK : Kept (fun x => x = T.tb ∨ x = i ∨ x = di.mb ∨ x = k) w w')
    (hT : w'.heap[T.tb]? = some (.cells #[ptrV (some T.root), .int .i64 (T.clock + 1), .int .i64 T.count] 133 (0, 0)))
    (hI : w'.heap[i]? = some (.cells #[.bool di.dir, di.bv, mapV di, .int .i64 di.links, .int .i64 (T.clock + 1)] 126 (0, 0)))
    (hKn : w'.heap[k]? = some (.cells #[.bool dk.dir, dk.bv, mapV dk, .int .i64 (dk.links + 1), .int .i64 dk.tick] 126 (0, 0)))
    (hM : MapAt w' di.mb (di.names ++ [(nm, k)])) : Rep B w' (T.linkTo i di nm k dk) ∧ ∀ x, (T.linkTo i di nm k dk).foot x → T.foot x := by
  have hik : i ≠ k := fun e => by
    rw [e, hdk] at hdi
    cases hdi
    rw [hdir] at hfl
    cases hfl
  have hnd : ∀ x, (T.linkTo i di nm k dk).nd x = if x = k then some { dk with links := dk.links + 1 } else if x = i then some { di with names := di.names ++ [(nm, k)], tick := T.clock + 1 } else T.nd x := fun x => rfl
  have there : ∀ q, (∃ d', T.nd q = some d') → ∃ d', (T.linkTo i di nm k dk).nd q = some d' := by
    rintro q ⟨d', hd'⟩
    rw [hnd]
    by_cases h1 : q = k
    · exact ⟨_, if_pos h1⟩
    · by_cases h2 : q = i
      · exact ⟨_, by rw [if_neg h1, if_pos h2]⟩
      · exact ⟨d', by rw [if_neg h1, if_neg h2]; exact hd'⟩
  refine hR.change hK ?_ rfl hT ?_ ?_ ?_
  · rintro b (rfl | rfl | rfl | rfl)
    · exact .inl rfl
    · exact .inr (.inl ⟨di, hdi⟩)
    · exact .inr (.inr ⟨i, di, hdi, hdir, rfl⟩)
    · exact .inr (.inl ⟨dk, hdk⟩)
  · intro n d' hn
    rw [hnd] at hn
    by_cases h1 : n = k
    · rw [if_pos h1] at hn
      cases hn
      subst h1
      exact .inr ⟨hKn, (fun h => by have h : dk.dir = true := h; rw [hfl] at h; cases h), fun _ => (hR.node n dk hdk).file hfl, dk, hdk, rfl, rfl, rfl, rfl⟩
    · rw [if_neg h1] at hn
      by_cases h2 : n = i
      · rw [if_pos h2] at hn
        cases hn
        subst h2
        exact .inr ⟨hI, fun _ => hM, (fun h => by have h : di.dir = false := h; rw [hdir] at h; cases h), di, hdi, rfl, rfl, rfl, rfl⟩
      · rw [if_neg h2] at hn
        refine .inl ⟨hn, ?_, fun hd => ?_⟩
        · obtain ⟨es, ck, hes, _⟩ := (hR.node i di hdi).map hdir
          rintro (h | h | h | h)
          · exact cells_ne_type (hR.node n d' hn).cells hR.tree (by decide) h
          · exact h2 h
          · exact cells_ne_map (hR.node n d' hn).cells hes h
          · exact h1 h
        · obtain ⟨es, ck, hes, _⟩ := (hR.node n d' hn).map hd
          rintro (h | h | h | h)
          · exact cells_ne_map hR.tree hes h.symm
          · exact cells_ne_map (hR.node i di hdi).cells hes h.symm
          · exact h2 (hR.maps n d' i di hn hdi hd hdir h)
          · exact cells_ne_map (hR.node k dk hdk).cells hes h.symm
  · obtain ⟨d, hd, hdd⟩ := hR.root
    show ∃ d, (if T.root = k then some { dk with links := dk.links + 1 } else if T.root = i then some { di with names := di.names ++ [(nm, k)], tick := T.clock + 1 } else T.nd T.root) = some d ∧ d.dir = true
    have h1 : T.root ≠ k := fun e => by
      rw [e, hdk] at hd
      cases hd
      rw [hfl] at hdd
      cases hdd
    rw [if_neg h1]
    by_cases h2 : T.root = i
    · rw [if_pos h2]; exact ⟨_, rfl, hdir⟩
    · rw [if_neg h2]; exact ⟨d, hd, hdd⟩
  · intro n d s q hn hq
    rw [hnd] at hn
    by_cases h1 : n = k
    · rw [if_pos h1] at hn
      cases hn
      exact there q (hR.kids k dk s q hdk hq)
    · rw [if_neg h1] at hn
      by_cases h2 : n = i
      · rw [if_pos h2] at hn
        cases hn
        rcases List.mem_append.1 hq with h | h
        · exact there q (hR.kids i di s q hdi h)
        · simp only [List.mem_singleton, Prod.mk.injEq] at h
          obtain ⟨_, rfl⟩ := h
          exact there q ⟨dk, hdk⟩
      · rw [if_neg h2] at hn
        exact there q (hR.kids n d s q hn hq)

set_option maxRecDepth 100000 in
set_option maxHeartbeats 1000000 in
theorem link_new {E : Nat → Addr} {B : Nat} {T : Tr} (old p : ByteArray) (w : World) (hE : Ctx E B w) (hR : Rep B w T) (hso : old.size ≤ 9223372036854775807) (hsz : p.size ≤ 9223372036854775807) (hck0 : 0 ≤ T.clock) (hck : T.clock ≤ 1152921504606846976)
    (k : Nat) (hk : T.fileOf old = .ok k) (dk : Nd) (hdk : T.nd k = some dk) (hfl : dk.dir = false) (hl0 : 0 ≤ dk.links) (hl1 : dk.links ≤ 1152921504606846976) (s : Spot) (hf : T.find p = .ok s) (hq : s.n = none)
    (i : Nat) (di : Nd) (hi : s.inn = some i) (hdi : T.nd i = some di) (hdir : di.dir = true) (hlk : look di.names s.name = none) :
    Calls Tryz.prog 25 #[.pointer (some ⟨T.tb, 0, none⟩), .string old, .string p] w fun e w' => LinkNew B w T i di s.name k dk e w' := by
  have HF := tree_file old w hE hR hso
  rw [hk] at HF
  have HC : Hid (Calls Tryz.prog 71 #[.pointer (some ⟨T.tb, 0, none⟩), .string old] w fun e w' => e = .returned (.tuple #[.pointer (some ⟨k, 0, none⟩), .nilIface]) ∧ Below w.heap.size w w') := HF
  have HC2 : Hid (∀ W, Below w.heap.size w W → Calls Tryz.prog 67 #[.pointer (some ⟨T.tb, 0, none⟩), .string p] W fun e w' => FindPost E W (.ok s) e w') := fun W hW => by
    have h := find_any p W (hE.below hW) (hR.below hW) hsz
    rw [hf] at h
    exact h
  have HE := Lib.hid hE
  have HR := Lib.hid hR
  have HDI := Lib.hid hdi
  have HDIR := Lib.hid hdir
  have HDK := Lib.hid hdk
  have HFL := Lib.hid hfl
  obtain ⟨inn, nm, nn⟩ := s
  have hq' : nn = none := hq
  have hi' : inn = some i := hi
  subst hq' hi'
  have HLK : Hid (look di.names nm = none) := hlk
  clear HF hE hR hf hk hq hi hdi hdir hdk hfl hlk
  go_enter Tryz.func25, Tryz.ntmps25
  go_wp2_with fail
  refine HC.out.mono ?_
  rintro e w1 ⟨rfl, hb⟩
  have HB1 : Hid (Below w.heap.size w w1) := hb
  clear hb
  go_wp2_with fail
  refine (HC2.out w1 HB1.out).mono ?_
  rintro e w2 ⟨hb2, rfl⟩
  have HB2 : Hid (Below w.heap.size w w2) := below_trans HB1.out hb2
  clear hb2
  simp only [spotV, ptrV_some, ptrV_none]
  obtain ⟨w3, hw3⟩ : ∃ w3, w3 = w2.alloc (.cells #[.pointer (some ⟨i, 0, none⟩), .string nm, .pointer none] 135) := ⟨_, rfl⟩
  have HW3 := Lib.hid hw3
  have HB3 : Hid (Below w.heap.size w w3) := by rw [hw3]; exact HB2.out.alloc HB2.out.size _
  have HS3 : Hid (w3.heap[w2.heap.size]? = some (.cells #[.pointer (some ⟨i, 0, none⟩), .string nm, .pointer none] 135 (0, 0))) := by rw [hw3]; exact heap_alloc_new w2 _
  have HSL : Hid (w.heap.size ≤ w2.heap.size) := HB2.out.size
  clear hw3
  go_upto_region 9 with fail
  rw [← HW3.out]
  clear HW3 HB1 HB2
  generalize w2.heap.size = sb at *
  have HRP := Lib.hid (HR.out.below HB3.out)
  have HNI := Lib.hid (HRP.out.node i di HDI.out)
  have s0 := cell_of (o := 0) HS3.out rfl
  have s1 := cell_of (o := 1) HS3.out rfl
  have hmi : w3.cell? ⟨i, 2, none⟩ = some (.map (some di.mb)) := by
    have h1 : w3.cell? ⟨i, 2, none⟩ = some (mapV di) := cell_of HNI.out.cells rfl
    rw [h1]; simp [mapV, HDIR.out]
  have HWM : Hid (MapAt w3.drew di.mb di.names) := (HNI.out.map HDIR.out).kept (Kept.of_below (Below.refl _ w3).drew (fun _ => False)) (fun hf => hf)
  obtain ⟨w4, hrun, hm4, hk4⟩ := run_update_names HWM.out nm HLK.out k
  have HM4 := Lib.hid hm4
  have HK4 : Hid (Kept (fun b => b = di.mb) w3 w4) := ⟨hk4.os, hk4.tape, hk4.output, hk4.size, hk4.block⟩
  clear hm4 hk4
  go_region
  clear hrun hmi s0 s1
  have HES : Hid (∃ es ck, w3.heap[di.mb]? = some (.map es ck)) := let ⟨es, ck, h, _⟩ := HNI.out.map HDIR.out; ⟨es, ck, h⟩
  have HOLD : Hid (∀ (b : Nat) (c : Array Value) (t : TypeId) (f : Nat × Nat), w3.heap[b]? = some (Obj.cells c t f) → w4.heap[b]? = some (Obj.cells c t f)) := fun b c T f h => by
    obtain ⟨es, ck, hes⟩ := HES.out
    exact (HK4.out.block b (lt_of_heap h) (cells_ne_map h hes)).trans h
  have HT4 := Lib.hid (HOLD.out _ _ _ _ HRP.out.tree)
  have HI4 := Lib.hid (HOLD.out _ _ _ _ HNI.out.cells)
  have HN4 := Lib.hid (HOLD.out _ _ _ _ (HRP.out.node k dk HDK.out).cells)
  have HS4 := Lib.hid (HOLD.out _ _ _ _ HS3.out)
  have hik : k ≠ i := fun e => by
    have h1 := HDK.out
    rw [e, HDI.out] at h1
    cases h1
    have h2 := HDIR.out
    rw [HFL.out] at h2
    cases h2
  have HKI := Lib.hid hik
  have k3 := cell_of (o := 3) HN4.out rfl
  have kf := fun o => free_of HN4.out o
  have HN5 : Hid ((w4.setCell ⟨k, 3, none⟩ (.int .i64 (dk.links + 1))).heap[k]? = some (.cells #[.bool dk.dir, dk.bv, mapV dk, .int .i64 (dk.links + 1), .int .i64 dk.tick] 126 (0, 0))) := heap_set_same HN4.out 3 _
  have HT5 : Hid ((w4.setCell ⟨k, 3, none⟩ (.int .i64 (dk.links + 1))).heap[T.tb]? = _) := (heap_set_other w4 _ _ (cells_ne_type HT4.out HN4.out (by decide))).trans HT4.out
  have HI5 : Hid ((w4.setCell ⟨k, 3, none⟩ (.int .i64 (dk.links + 1))).heap[i]? = _) := (heap_set_other w4 _ _ (Ne.symm hik)).trans HI4.out
  have HS5 : Hid ((w4.setCell ⟨k, 3, none⟩ (.int .i64 (dk.links + 1))).heap[sb]? = _) := (heap_set_other w4 _ _ (cells_ne_type HS4.out HN4.out (by decide))).trans HS4.out
  have HM5 : Hid (MapAt (w4.setCell ⟨k, 3, none⟩ (.int .i64 (dk.links + 1))) di.mb (di.names ++ [(nm, k)])) := HM4.out.kept ((Kept.refl (fun b => b = k) w4).setCell (p := ⟨k, 3, none⟩) (.inl rfl) _) (fun h => by
    obtain ⟨es, ck, h1, _⟩ := HM4.out
    have h : di.mb = k := h
    exact cells_ne_map HN4.out h1 h.symm)
  have HK5 : Hid (Kept (fun x => x = T.tb ∨ x = i ∨ x = di.mb ∨ x = k) w (w4.setCell ⟨k, 3, none⟩ (.int .i64 (dk.links + 1)))) := ((Kept.of_below HB3.out _).trans HK4.out (fun b h => .inl (.inr (.inr (.inl h))))).setCell (p := ⟨k, 3, none⟩) (.inl (.inr (.inr (.inr rfl)))) _
  clear hik
  go_upto_region 11 with fail
  clear k3 kf
  generalize w4.setCell ⟨k, 3, none⟩ (.int .i64 (dk.links + 1)) = w5 at *
  clear HOLD HT4 HI4 HN4 HS4 HM4 HK4
  have s0 := cell_of (o := 0) HS5.out rfl
  have HBA := Lib.hid (below_alloc w5 (.cells #[.pointer (some ⟨i, 0, none⟩)] 121))
  have HSA := Lib.hid (heap_alloc_new w5 (.cells #[.pointer (some ⟨i, 0, none⟩)] 121))
  go_wp2_with fail
  generalize w5.alloc (.cells #[.pointer (some ⟨i, 0, none⟩)] 121) = wA at *
  have HTA := Lib.hid (below_heap HBA.out (lt_of_heap HT5.out) HT5.out)
  have HIA := Lib.hid (below_heap HBA.out (lt_of_heap HI5.out) HI5.out)
  have HNA := Lib.hid (below_heap HBA.out (lt_of_heap HN5.out) HN5.out)
  have HMA : Hid (MapAt wA di.mb (di.names ++ [(nm, k)])) := HM5.out.kept (Kept.of_below HBA.out (fun _ => False)) (fun h => h)
  have HKA : Hid (Kept (fun x => x = T.tb ∨ x = i ∨ x = di.mb ∨ x = k) w wA) := HK5.out.then_below HBA.out
  refine (tick1 hck0 hck HTA.out HIA.out HSA.out).mono ?_
  intro e w6 hp
  obtain ⟨rfl, hT6, hI6, hK6⟩ := hp
  have HX : Hid (LinkNew B w T i di nm k dk (.returned .nilIface) w6) := by
    have hKK : Kept (fun x => x = T.tb ∨ x = i ∨ x = di.mb ∨ x = k) w w6 := HKA.out.trans hK6 (fun b h => by
      rcases h with h | h
      · exact .inl (.inl h)
      · exact .inl (.inr (.inl h)))
    have hN6 := (hK6.block k (lt_of_heap HNA.out) (fun h => by
      rcases h with h | h
      · exact cells_ne_type HNA.out HTA.out (by decide) h
      · exact HKI.out h)).trans HNA.out
    have hM6 : MapAt w6 di.mb (di.names ++ [(nm, k)]) := HMA.out.kept hK6 (fun h => by
      obtain ⟨es, ck, h1, _⟩ := HMA.out
      rcases h with h | h
      · exact cells_ne_map HTA.out h1 h.symm
      · exact cells_ne_map HIA.out h1 h.symm)
    obtain ⟨q1, q2⟩ := linkTo_rep HR.out HDI.out HDIR.out HDK.out HFL.out hKK hT6 hI6 hN6 hM6
    refine ⟨rfl, q1, hKK.mono ?_, q2⟩
    rintro x (rfl | rfl | rfl | rfl)
    · exact .inl rfl
    · exact .inr (.inl ⟨di, HDI.out⟩)
    · exact .inr (.inr ⟨i, di, HDI.out, .inl ⟨HDIR.out, rfl⟩⟩)
    · exact .inr (.inl ⟨dk, HDK.out⟩)
  clear hT6 hI6 hK6
  go_wp2_with fail
  go_ret
  exact HX.out
end
end Go.Proofs.YtjhojohjegkinaaGreatDoor
