/-
  (*Tree).Mkdir: its contracts.
-/
import Derived.Test.YtiejfbkbjahcgaaGreatDoorPutNew
import Derived.Lib.Hide
namespace Go.Proofs.YtiejfbkbjahcgaaGreatDoor
open Go Go.RowKit

/-- The tree with one node more, below a name. -/
def Tr.newNode (T : Tr) (i : Nat) (di : Nd) (nm : ByteArray) (k : Nat) (dk : Nd) : Tr :=
  ((T.tick 1).set i { di with names := di.names ++ [(nm, k)], tick := T.clock + 1 }).set k dk

section
variable {T : Tr} {i : Nat} {di : Nd} {nm : ByteArray} {k : Nat} {dk : Nd}
theorem newNode_k : (T.newNode i di nm k dk).nd k = some dk := by simp [Tr.newNode, Tr.set]
theorem newNode_i (h : i ≠ k) : (T.newNode i di nm k dk).nd i = some { di with names := di.names ++ [(nm, k)], tick := T.clock + 1 } := by simp [Tr.newNode, Tr.set, h]
theorem newNode_other {n : Nat} (h : n ≠ i) (h' : n ≠ k) : (T.newNode i di nm k dk).nd n = T.nd n := by simp [Tr.newNode, Tr.set, Tr.tick, h, h']
theorem newNode_cases (hik : i ≠ k) {n : Nat} {d : Nd} (h : (T.newNode i di nm k dk).nd n = some d) :
    (n = k ∧ d = dk) ∨ (n = i ∧ n ≠ k ∧ d = { di with names := di.names ++ [(nm, k)], tick := T.clock + 1 }) ∨ (n ≠ i ∧ n ≠ k ∧ T.nd n = some d) := by
  by_cases h1 : n = k
  · subst h1
    rw [newNode_k] at h
    exact .inl ⟨rfl, (Option.some.inj h).symm⟩
  · by_cases h2 : n = i
    · subst h2
      rw [newNode_i hik] at h
      exact .inr (.inl ⟨rfl, h1, (Option.some.inj h).symm⟩)
    · rw [newNode_other h2 h1] at h
      exact .inr (.inr ⟨h2, h1, h⟩)

theorem newNode_rep {B : Nat} {w w' : World} (hR : Rep B w T) (hB : B ≤ w.heap.size) (hdi : T.nd i = some di) (hdir : di.dir = true) (hk : w.heap.size ≤ k)
    (hK : Kept (fun x => x = T.tb ∨ x = i ∨ x = di.mb) w w')
    (hT : w'.heap[T.tb]? = some (.cells #[ptrV (some T.root), .int .i64 (T.clock + 1), .int .i64 (T.count + 1)] 139 (0, 0)))
    (hI : w'.heap[i]? = some (.cells #[.bool di.dir, di.bv, mapV di, .int .i64 di.links, .int .i64 (T.clock + 1)] 132 (0, 0)))
    (hM : MapAt w' di.mb (di.names ++ [(nm, k)]))
    (hN : NodeAt B w' k dk) (hbare : dk.names = []) (hnb : dk.dir = true → w.heap.size ≤ dk.mb) (hnr : ∀ r, dk.bv.ownBlock = some r → w.heap.size ≤ r) :
    Rep B w' (T.newNode i di nm k dk) ∧ (∀ x, (T.newNode i di nm k dk).foot x → T.foot x ∨ w.heap.size ≤ x) := by
  have hil := hR.node_lt hdi
  have hik : i ≠ k := by omega
  have hF : ∀ x, (x = T.tb ∨ x = i ∨ x = di.mb) → ∃ j, j ∈ [i] ∧ ∃ dj, T.nd j = some dj ∧ Touch T j dj x := by
    rintro x (rfl | rfl | rfl)
    · exact ⟨i, by simp, di, hdi, .inl rfl⟩
    · exact ⟨x, by simp, di, hdi, .inr (.inl rfl)⟩
    · exact ⟨i, by simp, di, hdi, .inr (.inr (.inl ⟨hdir, rfl⟩))⟩
  have hfoot : ∀ x, (T.newNode i di nm k dk).foot x → T.foot x ∨ w.heap.size ≤ x := by
    rintro x (rfl | ⟨d, hd⟩ | ⟨n, d, hn, h⟩)
    · exact .inl (.inl rfl)
    · rcases newNode_cases hik hd with ⟨rfl, _⟩ | ⟨rfl, _, _⟩ | ⟨_, _, h3⟩
      · exact .inr hk
      · exact .inl (.inr (.inl ⟨di, hdi⟩))
      · exact .inl (.inr (.inl ⟨d, h3⟩))
    · rcases newNode_cases hik hn with ⟨rfl, rfl⟩ | ⟨rfl, _, rfl⟩ | ⟨_, _, h3⟩
      · rcases h with ⟨h1, rfl⟩ | h1
        · exact .inr (hnb h1)
        · exact .inr (hnr x h1)
      · exact .inl (.inr (.inr ⟨n, di, hdi, h⟩))
      · exact .inl (.inr (.inr ⟨n, d, h3, h⟩))
  have old : ∀ {m : Nat} {e : Nd} {r : Nat}, T.nd m = some e → e.bv.ownBlock = some r → r < w.heap.size := fun {m e r} hm hr => hR.lt (.inr (.inr ⟨m, e, hm, .inr hr⟩))
  have oldm : ∀ {m : Nat} {e : Nd}, T.nd m = some e → e.dir = true → e.mb < w.heap.size := fun {m e} hm hd => hR.lt (.inr (.inr ⟨m, e, hm, .inl ⟨hd, rfl⟩⟩))
  refine ⟨⟨fun x hx => ?_, hT, fun n d hn => ?_, fun n d n' d' hn hn' hd hd' he => ?_, fun n d n' d' r hn hn' hr hr' => ?_, ?_, fun n d s q hn hq => ?_⟩, hfoot⟩
  · rcases hfoot x hx with h | h
    · exact hR.low x h
    · omega
  · rcases newNode_cases hik hn with ⟨rfl, rfl⟩ | ⟨rfl, _, rfl⟩ | ⟨h1, _, h3⟩
    · exact hN
    · refine ⟨hI, ?_, fun _ => hM, fun h => ?_⟩
      · refine ownsRow_kept (hR.node n di hdi).row hK ?_
        intro r hr
        obtain ⟨c, hc⟩ := (hR.node n di hdi).row_block hr
        obtain ⟨es, ck, hes, _⟩ := (hR.node n di hdi).map hdir
        rintro (h | h | h)
        · exact cells_ne_type hc hR.tree (by decide) h
        · exact cells_ne_type hc (hR.node n di hdi).cells (by decide) h
        · exact cells_ne_map hc hes h
      · have h' : di.dir = false := h
        rw [hdir] at h'
        cases h'
    · exact hR.others hK [i] hF h3 (by simpa using h1)
  · rcases newNode_cases hik hn with ⟨rfl, rfl⟩ | ⟨rfl, _, rfl⟩ | ⟨_, _, h3⟩
    · have h1 := hnb hd
      rcases newNode_cases hik hn' with ⟨rfl, rfl⟩ | ⟨rfl, _, rfl⟩ | ⟨_, _, h3'⟩
      · rfl
      · have h2 := oldm hdi hdir
        have he' : d.mb = di.mb := he
        omega
      · have h2 := oldm h3' hd'
        omega
    · rcases newNode_cases hik hn' with ⟨rfl, rfl⟩ | ⟨rfl, _, rfl⟩ | ⟨_, _, h3'⟩
      · have h1 := hnb hd'
        have h2 := oldm hdi hdir
        have he' : di.mb = d'.mb := he
        omega
      · rfl
      · exact hR.maps n di n' d' hdi h3' hdir hd' he
    · rcases newNode_cases hik hn' with ⟨rfl, rfl⟩ | ⟨rfl, _, rfl⟩ | ⟨_, _, h3'⟩
      · have h1 := hnb hd'
        have h2 := oldm h3 hd
        omega
      · exact hR.maps n d n' di h3 hdi hd hdir he
      · exact hR.maps n d n' d' h3 h3' hd hd' he
  · rcases newNode_cases hik hn with ⟨rfl, rfl⟩ | ⟨rfl, _, rfl⟩ | ⟨_, _, h3⟩
    · have h1 := hnr r hr
      rcases newNode_cases hik hn' with ⟨rfl, rfl⟩ | ⟨rfl, _, rfl⟩ | ⟨_, _, h3'⟩
      · rfl
      · have := old hdi hr'; omega
      · have := old h3' hr'; omega
    · rcases newNode_cases hik hn' with ⟨rfl, rfl⟩ | ⟨rfl, _, rfl⟩ | ⟨_, _, h3'⟩
      · have h1 := hnr r hr'
        have := old hdi hr; omega
      · rfl
      · exact hR.rows n di n' d' r hdi h3' hr hr'
    · rcases newNode_cases hik hn' with ⟨rfl, rfl⟩ | ⟨rfl, _, rfl⟩ | ⟨_, _, h3'⟩
      · have h1 := hnr r hr'
        have := old h3 hr; omega
      · exact hR.rows n d n' di r h3 hdi hr hr'
      · exact hR.rows n d n' d' r h3 h3' hr hr'
  · obtain ⟨d, hd, hdd⟩ := hR.root
    have hne : T.root ≠ k := by have := hR.node_lt hd; omega
    by_cases h : T.root = i
    · refine ⟨{ di with names := di.names ++ [(nm, k)], tick := T.clock + 1 }, ?_, hdir⟩
      show (T.newNode i di nm k dk).nd T.root = _
      rw [h]
      exact newNode_i hik
    · exact ⟨d, (newNode_other h hne).trans hd, hdd⟩
  · have look' : ∀ q, (∃ d', T.nd q = some d') → ∃ d', (T.newNode i di nm k dk).nd q = some d' := by
      rintro q ⟨d', hd'⟩
      by_cases h1 : q = k
      · exact ⟨_, (congrArg _ h1).trans newNode_k⟩
      · by_cases h2 : q = i
        · exact ⟨_, (congrArg _ h2).trans (newNode_i hik)⟩
        · exact ⟨d', (newNode_other h2 h1).trans hd'⟩
    rcases newNode_cases hik hn with ⟨rfl, rfl⟩ | ⟨rfl, _, rfl⟩ | ⟨_, _, h3⟩
    · rw [hbare] at hq; cases hq
    · rcases List.mem_append.1 hq with h | h
      · exact look' q (hR.kids n di s q hdi h)
      · simp only [List.mem_singleton, Prod.mk.injEq] at h
        obtain ⟨_, rfl⟩ := h
        exact ⟨_, newNode_k⟩
    · exact look' q (hR.kids n d s q h3 hq)
end

/-- A tree's call refused: an error of a code, nothing turned. -/
def TErr (E : Nat → Addr) (w : World) (c : Nat) (e : Ending) (w' : World) : Prop :=
  ∃ a, e = .returned (failV a) ∧ Failed E w.heap.size w' a c ∧ Below w.heap.size w w'

set_option maxRecDepth 100000 in
set_option maxHeartbeats 1000000 in
theorem mkdir_err {E : Nat → Addr} {B : Nat} {T : Tr} (p : ByteArray) (w : World) (hE : Ctx E B w) (hR : Rep B w T) (hsz : p.size ≤ 9223372036854775807) (c : Nat) (hf : T.find p = .error c) :
    Calls Tryz.prog 22 #[.pointer (some ⟨T.tb, 0, none⟩), .string p] w fun e w' => TErr E w c e w' := by
  have HF := find_any p w hE hR hsz
  rw [hf] at HF
  have HC : Hid (Calls Tryz.prog 73 #[.pointer (some ⟨T.tb, 0, none⟩), .string p] w fun e w' => FindPost E w (.error c) e w') := HF
  clear HF hE hR hf
  go_enter Tryz.func22, Tryz.ntmps22
  go_wp2_with fail
  refine HC.out.mono ?_
  rintro e w1 ⟨hb, a, rfl, hfl⟩
  have HB : Hid (Below w.heap.size w w1) := hb
  have HFL : Hid (Failed E w.heap.size w1 a c) := hfl
  clear hb hfl
  simp only [spotV, spot0, ptrV_none]
  go_wp2_with fail
  go_ret
  exact ⟨a, rfl, HFL.out.below (below_alloc w1 _), below_trans HB.out (below_alloc w1 _)⟩

set_option maxRecDepth 100000 in
set_option maxHeartbeats 1000000 in
theorem mkdir_there {E : Nat → Addr} {B : Nat} {T : Tr} (p : ByteArray) (w : World) (hE : Ctx E B w) (hR : Rep B w T) (hsz : p.size ≤ 9223372036854775807) (s : Spot) (hf : T.find p = .ok s) (k : Nat) (hk : s.n = some k) :
    Calls Tryz.prog 22 #[.pointer (some ⟨T.tb, 0, none⟩), .string p] w fun e w' => TErr E w 18 e w' := by
  have HF := find_any p w hE hR hsz
  rw [hf] at HF
  have HC : Hid (Calls Tryz.prog 73 #[.pointer (some ⟨T.tb, 0, none⟩), .string p] w fun e w' => FindPost E w (.ok s) e w') := HF
  have HE := Lib.hid hE
  clear HF hE hR hf
  obtain ⟨inn, nm, nn⟩ := s
  have hk' : nn = some k := hk
  subst hk'
  clear hk
  go_enter Tryz.func22, Tryz.ntmps22
  go_wp2_with fail
  refine HC.out.mono ?_
  rintro e w1 ⟨hb, rfl⟩
  have HB : Hid (Below w.heap.size w w1) := hb
  clear hb
  rcases inn with _ | j <;> simp only [spotV, ptrV_some, ptrV_none]
  all_goals
    go_wp2_with fail
    have HB1 := Lib.hid (fun o => below_trans HB.out (below_alloc w1 o))
    refine (tree_fail _ (HE.out.env.below (HB1.out _)) 18 (by unfold Used; omega)).mono ?_
    rintro e w2 ⟨a, rfl, hfl, hb2⟩
    have HFL := Lib.hid (hfl.mono (HB1.out _).size)
    have HB2 := Lib.hid (below_trans (HB1.out _) hb2)
    clear hfl hb2
    go_wp2_with fail
    go_ret
    exact ⟨a, rfl, HFL.out, HB2.out⟩

set_option maxRecDepth 100000 in
set_option maxHeartbeats 1000000 in
theorem mkdir_full {E : Nat → Addr} {B : Nat} {T : Tr} (p : ByteArray) (w : World) (hE : Ctx E B w) (hR : Rep B w T) (hsz : p.size ≤ 9223372036854775807) (s : Spot) (hf : T.find p = .ok s) (hk : s.n = none) (hfull : 200 ≤ T.count) :
    Calls Tryz.prog 22 #[.pointer (some ⟨T.tb, 0, none⟩), .string p] w fun e w' => TErr E w 19 e w' := by
  have HF := find_any p w hE hR hsz
  rw [hf] at HF
  have HC : Hid (Calls Tryz.prog 73 #[.pointer (some ⟨T.tb, 0, none⟩), .string p] w fun e w' => FindPost E w (.ok s) e w') := HF
  have HE := Lib.hid hE
  have HR := Lib.hid hR
  clear HF hE hR hf
  obtain ⟨inn, nm, nn⟩ := s
  have hk' : nn = none := hk
  subst hk'
  clear hk
  generalize hcc : T.count = cnt at *
  have HCC := Lib.hid hcc
  clear hcc
  go_enter Tryz.func22, Tryz.ntmps22
  go_wp2_with fail
  refine HC.out.mono ?_
  rintro e w1 ⟨hb, rfl⟩
  have HB : Hid (Below w.heap.size w w1) := hb
  clear hb
  have hc2 : w1.cell? ⟨T.tb, 2, none⟩ = some (.int .i64 cnt) := by
    have h := cell_of (o := 2) (HR.out.below HB.out).tree rfl
    rw [HCC.out] at h
    exact h
  have htl : T.tb < w1.heap.size := (HR.out.below HB.out).lt (.inl rfl)
  rcases inn with _ | j <;> simp only [spotV, ptrV_some, ptrV_none]
  all_goals
    go_wp2_with fail
    have HB1 := Lib.hid (fun o => below_trans HB.out (below_alloc w1 o))
    refine (tree_fail _ (HE.out.env.below (HB1.out _)) 19 (by unfold Used; omega)).mono ?_
    rintro e w2 ⟨a, rfl, hfl, hb2⟩
    have HFL := Lib.hid (hfl.mono (HB1.out _).size)
    have HB2 := Lib.hid (below_trans (HB1.out _) hb2)
    clear hfl hb2
    go_wp2_with fail
    go_ret
    exact ⟨a, rfl, HFL.out, HB2.out⟩

/-- What Mkdir leaves where it makes a directory. -/
def MkNew (B : Nat) (w : World) (T : Tr) (i : Nat) (di : Nd) (nm : ByteArray) (e : Ending) (w' : World) : Prop :=
  ∃ k mb, e = .returned .nilIface ∧ w.heap.size ≤ k ∧ Rep B w' (T.newNode i di nm k { dir := true, bv := .slice none 0 0, data := [], names := [], mb := mb, links := 0, tick := T.clock + 1 }) ∧ Kept T.foot w w' ∧ (∀ x, (T.newNode i di nm k { dir := true, bv := .slice none 0 0, data := [], names := [], mb := mb, links := 0, tick := T.clock + 1 }).foot x → T.foot x ∨ w.heap.size ≤ x)

set_option maxRecDepth 100000 in
set_option maxHeartbeats 4000000 in
theorem mkdir_new {E : Nat → Addr} {B : Nat} {T : Tr} (p : ByteArray) (w : World) (hE : Ctx E B w) (hR : Rep B w T) (hsz : p.size ≤ 9223372036854775807) (s : Spot) (hf : T.find p = .ok s)
    (hk : s.n = none) (hfull : T.count < 200) (hcnt : 0 ≤ T.count) (hck0 : 0 ≤ T.clock) (hck : T.clock ≤ 1152921504606846976)
    (i : Nat) (di : Nd) (hi : s.inn = some i) (hdi : T.nd i = some di) (hdir : di.dir = true) (hlk : look di.names s.name = none) :
    Calls Tryz.prog 22 #[.pointer (some ⟨T.tb, 0, none⟩), .string p] w fun e w' => MkNew B w T i di s.name e w' := by
  have HF := find_any p w hE hR hsz
  rw [hf] at HF
  have HC : Hid (Calls Tryz.prog 73 #[.pointer (some ⟨T.tb, 0, none⟩), .string p] w fun e w' => FindPost E w (.ok s) e w') := HF
  have hmm := @Go.RowKit.run_makeMap Tryz.prog
  have HE : Hid (Ctx E B w) := hE
  have HR : Hid (Rep B w T) := hR
  have HDI : Hid (T.nd i = some di) := hdi
  have HDIR : Hid (di.dir = true) := hdir
  obtain ⟨inn, nm, nn⟩ := s
  have hk' : nn = none := hk
  have hi' : inn = some i := hi
  subst hk' hi'
  have HLK : Hid (look di.names nm = none) := hlk
  clear HF hE hR hf hk hi hdi hdir hlk
  go_enter Tryz.func22, Tryz.ntmps22
  go_wp2_with fail
  refine HC.out.mono ?_
  rintro e w1 ⟨hb, rfl⟩
  have HB : Hid (Below w.heap.size w w1) := hb
  have HRP : Hid (Rep B w1 T) := HR.out.below HB.out
  clear hb
  simp only [spotV, ptrV_none, ptrV_some]
  have htl : T.tb < w1.heap.size := HRP.out.lt (.inl rfl)
  have hil : i < w1.heap.size := HRP.out.lt (.inr (.inl ⟨di, HDI.out⟩))
  have HNI : Hid (NodeAt B w1 i di) := HRP.out.node i di HDI.out
  have hc2 : w1.cell? ⟨T.tb, 2, none⟩ = some (.int .i64 T.count) := cell_of HRP.out.tree rfl
  have hmi : w1.cell? ⟨i, 2, none⟩ = some (.map (some di.mb)) := by
    have h1 : w1.cell? ⟨i, 2, none⟩ = some (mapV di) := cell_of HNI.out.cells rfl
    rw [h1]; simp [mapV, HDIR.out]
  generalize hcc : T.count = cnt at *
  have HCC : Hid (T.count = cnt) := hcc
  clear hcc
  have HWM : Hid (MapAt ((((w1.alloc (.cells #[.pointer (some ⟨i, 0, none⟩), .string nm, .pointer none] 141)).alloc (.map #[] 0)).alloc (.cells #[.bool true, .slice none 0 0, .map (some (w1.heap.size + 1)), .int .i64 0, .int .i64 0] 132))).drew di.mb di.names) :=
    (HNI.out.map HDIR.out).kept (Kept.of_below ((below_trans (below_two w1 _ _) (below_alloc _ _)).drew) (fun _ => False)) (fun hf => hf)
  obtain ⟨w2, hrun, hm2, hk2⟩ := run_update_names HWM.out nm HLK.out (w1.heap.size + 2)
  have HM2 : Hid (MapAt w2 di.mb (di.names ++ [(nm, w1.heap.size + 2)])) := hm2
  have HK2 : Hid (Kept (fun b => b = di.mb) ((((w1.alloc (.cells #[.pointer (some ⟨i, 0, none⟩), .string nm, .pointer none] 141)).alloc (.map #[] 0)).alloc (.cells #[.bool true, .slice none 0 0, .map (some (w1.heap.size + 1)), .int .i64 0, .int .i64 0] 132))).drew w2) := hk2
  clear hm2 hk2
  have hil1 : i < w1.heap.size + 1 := by omega
  have hil2 : i < w1.heap.size + 1 + 1 := by omega
  have hil3 : i < w1.heap.size + 2 := by omega
  go_wp2_with fail
  go_region
  clear hrun hmm hil1 hil2 hil3
  have HES : Hid (∃ es ck, w1.heap[di.mb]? = some (.map es ck)) := let ⟨es, ck, h, _⟩ := HNI.out.map HDIR.out; ⟨es, ck, h⟩
  have hsA : ((((w1.alloc (.cells #[.pointer (some ⟨i, 0, none⟩), .string nm, .pointer none] 141)).alloc (.map #[] 0)).alloc (.cells #[.bool true, .slice none 0 0, .map (some (w1.heap.size + 1)), .int .i64 0, .int .i64 0] 132))).drew.heap.size = w1.heap.size + 3 := by simp
  have HOLD : Hid (∀ b o, w1.heap[b]? = some o → b ≠ di.mb → w2.heap[b]? = some o) := by
    intro b o h hne
    have hb := lt_of_heap h
    rw [HK2.out.block b (by omega) hne, heap_drew, Below.heap_alloc _ _ _ (by simp; omega), Below.heap_alloc _ _ _ (by simp; omega), Below.heap_alloc _ _ _ hb]
    exact h
  have HT2 : Hid (w2.heap[T.tb]? = some (.cells #[ptrV (some T.root), .int .i64 T.clock, .int .i64 cnt] 139 (0, 0))) := by
    obtain ⟨es, ck, hes⟩ := HES.out
    show w2.heap[T.tb]? = _
    rw [← HCC.out]
    exact HOLD.out _ _ HRP.out.tree (cells_ne_map HRP.out.tree hes)
  have HI2 : Hid (w2.heap[i]? = some (.cells #[.bool di.dir, di.bv, mapV di, .int .i64 di.links, .int .i64 di.tick] 132 (0, 0))) := by
    obtain ⟨es, ck, hes⟩ := HES.out
    exact HOLD.out _ _ HNI.out.cells (cells_ne_map HNI.out.cells hes)
  have HS2 : Hid (w2.heap[w1.heap.size]? = some (.cells #[.pointer (some ⟨i, 0, none⟩), .string nm, .pointer none] 141 (0, 0))) := by
    obtain ⟨es, ck, hes⟩ := HES.out
    show w2.heap[w1.heap.size]? = _
    have := lt_of_heap hes
    rw [HK2.out.block _ (by omega) (by omega), heap_drew, Below.heap_alloc _ _ _ (by simp; omega), Below.heap_alloc _ _ _ (by simp)]
    exact heap_alloc_new w1 _
  have HMB2 : Hid (w2.heap[w1.heap.size + 1]? = some (.map #[] 0)) := by
    obtain ⟨es, ck, hes⟩ := HES.out
    show w2.heap[w1.heap.size + 1]? = _
    have := lt_of_heap hes
    rw [HK2.out.block _ (by omega) (by omega), heap_drew, Below.heap_alloc _ _ _ (by simp)]
    have h := heap_alloc_new (w1.alloc (.cells #[.pointer (some ⟨i, 0, none⟩), .string nm, .pointer none] 141)) (.map #[] 0)
    simpa using h
  have HN2 : Hid (w2.heap[w1.heap.size + 2]? = some (.cells #[.bool true, .slice none 0 0, .map (some (w1.heap.size + 1)), .int .i64 0, .int .i64 0] 132 (0, 0))) := by
    obtain ⟨es, ck, hes⟩ := HES.out
    show w2.heap[w1.heap.size + 2]? = _
    have := lt_of_heap hes
    rw [HK2.out.block _ (by omega) (by omega), heap_drew]
    have h := heap_alloc_new ((w1.alloc (.cells #[.pointer (some ⟨i, 0, none⟩), .string nm, .pointer none] 141)).alloc (.map #[] 0)) (.cells #[.bool true, .slice none 0 0, .map (some (w1.heap.size + 1)), .int .i64 0, .int .i64 0] 132)
    simpa using h
  have HSZ2 : Hid (w1.heap.size + 3 ≤ w2.heap.size) := by have := HK2.out.size; rw [hsA] at this; exact this
  have HKA : Hid (Kept (fun x => x = T.tb ∨ x = i ∨ x = di.mb) w w2) := by
    refine ((((Kept.of_below HB.out (fun x => x = T.tb ∨ x = i ∨ x = di.mb)).alloc _).alloc _).alloc _).drew.trans HK2.out ?_
    rintro x rfl
    exact .inl (.inr (.inr rfl))
  have HNEs : Hid (T.tb ≠ i ∧ T.tb < w1.heap.size ∧ i < w1.heap.size) := ⟨cells_ne_type HRP.out.tree HNI.out.cells (by decide), htl, hil⟩
  clear hc2 hmi HWM HK2 hsA HOLD
  have h20 : w2.cell? ⟨T.tb, 2, none⟩ = some (.int .i64 cnt) := cell_of HT2.out rfl
  have f20 : ∀ o, w2.frozen? ⟨T.tb, o, none⟩ = false := fun o => free_of HT2.out o
  have g20 : w2.cell? ⟨w1.heap.size, 0, none⟩ = some (.pointer (some ⟨i, 0, none⟩)) := cell_of HS2.out rfl
  have n1 : w1.heap.size ≠ T.tb := by omega
  have n2 : T.tb < w2.heap.size := lt_of_heap HT2.out
  have n3 : w1.heap.size < w2.heap.size := lt_of_heap HS2.out
  go_wp2_with fail
  have HOL3 : Hid (∀ b o, w2.heap[b]? = some o → b ≠ T.tb → ((w2.setCell ⟨T.tb, 2, none⟩ (.int .i64 (cnt + 1))).alloc (.cells #[.pointer (some ⟨w1.heap.size + 2, 0, none⟩), .pointer (some ⟨i, 0, none⟩)] 128)).heap[b]? = some o) := by
    intro b o h hne
    have := lt_of_heap h
    rw [Below.heap_alloc _ _ _ (by simp [World.setCell]; omega), heap_set_other _ _ _ hne]
    exact h
  have HT3 : Hid (((w2.setCell ⟨T.tb, 2, none⟩ (.int .i64 (cnt + 1))).alloc (.cells #[.pointer (some ⟨w1.heap.size + 2, 0, none⟩), .pointer (some ⟨i, 0, none⟩)] 128)).heap[T.tb]? = some (.cells #[ptrV (some T.root), .int .i64 T.clock, .int .i64 (cnt + 1)] 139 (0, 0))) := by
    show _ = _
    rw [Below.heap_alloc _ _ _ (by simp [World.setCell]; omega)]
    exact heap_set_same HT2.out 2 _
  have HI3 := Lib.hid (HOL3.out _ _ HI2.out (Ne.symm HNEs.out.1))
  have HN3 := Lib.hid (HOL3.out _ _ HN2.out (by have := HNEs.out; omega))
  have HMB3 := Lib.hid (HOL3.out _ _ HMB2.out (by have := HNEs.out; omega))
  have HKA3 : Hid (Kept (fun x => x = T.tb ∨ x = i ∨ x = di.mb) w ((w2.setCell ⟨T.tb, 2, none⟩ (.int .i64 (cnt + 1))).alloc (.cells #[.pointer (some ⟨w1.heap.size + 2, 0, none⟩), .pointer (some ⟨i, 0, none⟩)] 128))) := (HKA.out.setCell (p := ⟨T.tb, 2, none⟩) (.inl (.inl rfl)) _).alloc _
  have HS3 : Hid (((w2.setCell ⟨T.tb, 2, none⟩ (.int .i64 (cnt + 1))).alloc (.cells #[.pointer (some ⟨w1.heap.size + 2, 0, none⟩), .pointer (some ⟨i, 0, none⟩)] 128)).heap[w2.heap.size]? = some (.cells #[.pointer (some ⟨w1.heap.size + 2, 0, none⟩), .pointer (some ⟨i, 0, none⟩)] 128 (0, 0))) := by
    have h := heap_alloc_new (w2.setCell ⟨T.tb, 2, none⟩ (.int .i64 (cnt + 1))) (.cells #[.pointer (some ⟨w1.heap.size + 2, 0, none⟩), .pointer (some ⟨i, 0, none⟩)] 128)
    have e : (w2.setCell ⟨T.tb, 2, none⟩ (.int .i64 (cnt + 1))).heap.size = w2.heap.size := by simp [World.setCell]
    rw [e] at h
    exact h
  have HM3 : Hid (MapAt ((w2.setCell ⟨T.tb, 2, none⟩ (.int .i64 (cnt + 1))).alloc (.cells #[.pointer (some ⟨w1.heap.size + 2, 0, none⟩), .pointer (some ⟨i, 0, none⟩)] 128)) di.mb (di.names ++ [(nm, w1.heap.size + 2)])) := by
    obtain ⟨es, ck, h1, h2⟩ := HM2.out
    exact ⟨es, ck, HOL3.out _ _ h1 (Ne.symm (cells_ne_map HT2.out h1)), h2⟩
  refine (tick2 hck0 hck HT3.out HN3.out HI3.out HS3.out (by have := HNEs.out; omega)).mono ?_
  intro e w4 hp
  obtain ⟨rfl, hT4, hN4, hI4, hK4⟩ := hp
  have HT4 : Hid (w4.heap[T.tb]? = some (.cells #[ptrV (some T.root), .int .i64 (T.clock + 1), .int .i64 (cnt + 1)] 139 (0, 0))) := hT4
  have HN4 : Hid (w4.heap[w1.heap.size + 2]? = some (.cells #[.bool true, .slice none 0 0, .map (some (w1.heap.size + 1)), .int .i64 0, .int .i64 (T.clock + 1)] 132 (0, 0))) := hN4
  have HI4 : Hid (w4.heap[i]? = some (.cells #[.bool di.dir, di.bv, mapV di, .int .i64 di.links, .int .i64 (T.clock + 1)] 132 (0, 0))) := hI4
  have HK4 : Hid (Kept (fun x => x = T.tb ∨ x = i ∨ x = di.mb) w w4) := HKA3.out.trans hK4 (by
    have h1 := HB.out.size
    rintro x (rfl | rfl | rfl)
    · exact .inl (.inl rfl)
    · exact .inr (by omega)
    · exact .inl (.inr (.inl rfl)))
  have HM4 : Hid (MapAt w4 di.mb (di.names ++ [(nm, w1.heap.size + 2)])) := HM3.out.kept hK4 (by
    obtain ⟨es, ck, h1, h2⟩ := HM3.out
    rintro (h | h | h)
    · exact cells_ne_map HT3.out h1 h.symm
    · exact cells_ne_map HN3.out h1 h.symm
    · exact cells_ne_map HI3.out h1 h.symm)
  have HMB4 : Hid (w4.heap[w1.heap.size + 1]? = some (.map #[] 0)) := by
    show _ = _
    rw [hK4.block _ (lt_of_heap HMB3.out) (by
      rintro (h | h | h)
      · exact cells_ne_map HT3.out HMB3.out h.symm
      · exact cells_ne_map HN3.out HMB3.out h.symm
      · exact cells_ne_map HI3.out HMB3.out h.symm)]
    exact HMB3.out
  clear hT4 hN4 hI4 hK4 HT3 HN3 HI3 HS3 HKA3 HM3 HMB3 HT2 HI2 HS2 HN2 HMB2 HSZ2 HKA HM2 h20 f20 g20 n1 n2 n3 HOL3
  go_wp2_with fail
  go_ret
  have hne := HNEs.out
  have hkl : w.heap.size ≤ w1.heap.size + 2 := by have := HB.out.size; omega
  have hkm : w.heap.size ≤ w1.heap.size + 1 := by have := HB.out.size; omega
  have hrep := newNode_rep (nm := nm) (k := w1.heap.size + 2) (dk := { dir := true, bv := .slice none 0 0, data := [], names := [], mb := w1.heap.size + 1, links := 0, tick := T.clock + 1 }) HR.out HE.out.env.size HDI.out HDIR.out hkl HK4.out
    (by rw [HCC.out]; exact HT4.out) HI4.out HM4.out ⟨HN4.out, World.ownsRow_nil _ _ _ _, fun _ => ⟨#[], 0, HMB4.out, rfl, MapKept.stamped_empty 0⟩, fun h => (by cases h)⟩ rfl (fun _ => hkm) (fun _ h => (by cases h))
  refine ⟨w1.heap.size + 2, w1.heap.size + 1, rfl, hkl, hrep.1, HK4.out.mono ?_, hrep.2⟩
  rintro x (rfl | rfl | rfl)
  · exact .inl rfl
  · exact .inr (.inl ⟨di, HDI.out⟩)
  · exact .inr (.inr ⟨i, di, HDI.out, .inl ⟨HDIR.out, rfl⟩⟩)
end Go.Proofs.YtiejfbkbjahcgaaGreatDoor
