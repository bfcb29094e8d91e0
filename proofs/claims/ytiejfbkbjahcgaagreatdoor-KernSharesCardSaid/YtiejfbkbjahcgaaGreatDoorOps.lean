/-
  WHAT A CHANGE OF SOME NODES LEAVES OF A TREE IN MEMORY.
-/
import Derived.Test.YtiejfbkbjahcgaaGreatDoorPut
namespace Go.Proofs.YtiejfbkbjahcgaaGreatDoor
open Go Go.RowKit

/-- The blocks that a change at node i may write. -/
def Touch (T : Tr) (i : Nat) (di : Nd) (b : Nat) : Prop := b = T.tb ∨ b = i ∨ (di.dir = true ∧ di.mb = b) ∨ di.bv.ownBlock = some b

theorem NodeAt.row_block {B n : Nat} {w : World} {d : Nd} (h : NodeAt B w n d) {b : Nat} (hb : d.bv.ownBlock = some b) : ∃ c, w.heap[b]? = some (.cells c 5 (0, 0)) := by
  rcases h.row.2 with ⟨h1, _⟩ | ⟨g, cap, cur, h1, _, h2, _⟩
  · rw [h1] at hb; cases hb
  · rw [h1] at hb
    simp only [Value.ownBlock, Option.some.injEq] at hb
    subst hb
    exact ⟨cur, h2⟩

theorem Touch.foot {T : Tr} {i : Nat} {di : Nd} (hi : T.nd i = some di) {b : Nat} (h : Touch T i di b) : T.foot b := by
  rcases h with rfl | rfl | ⟨h1, rfl⟩ | h
  · exact .inl rfl
  · exact .inr (.inl ⟨di, hi⟩)
  · exact .inr (.inr ⟨i, di, hi, .inl ⟨h1, rfl⟩⟩)
  · exact .inr (.inr ⟨i, di, hi, .inr h⟩)

theorem Rep.apart {B : Nat} {w : World} {T : Tr} (hR : Rep B w T) {n i : Nat} {d di : Nd} (hn : T.nd n = some d) (hi : T.nd i = some di) (hne : n ≠ i) :
    ¬ Touch T i di n ∧ (d.dir = true → ¬ Touch T i di d.mb) ∧ (∀ r, d.bv.ownBlock = some r → ¬ Touch T i di r) := by
  have N := hR.node n d hn
  have I := hR.node i di hi
  refine ⟨?_, fun hd => ?_, fun r hr => ?_⟩
  · rintro (h | h | ⟨h1, h⟩ | h)
    · exact cells_ne_type N.cells hR.tree (by decide) h
    · exact hne h
    · obtain ⟨es, c, h2, _⟩ := I.map h1
      exact cells_ne_map N.cells h2 h.symm
    · obtain ⟨c, hc⟩ := I.row_block h
      exact cells_ne_type N.cells hc (by decide) rfl
  · obtain ⟨es, c, h0, _⟩ := N.map hd
    rintro (h | h | ⟨h1, h⟩ | h)
    · exact cells_ne_map hR.tree h0 h.symm
    · exact cells_ne_map I.cells h0 h.symm
    · exact hne (hR.maps n d i di hn hi hd h1 h.symm)
    · obtain ⟨c, hc⟩ := I.row_block h
      exact cells_ne_map hc h0 rfl
  · obtain ⟨c, hc⟩ := N.row_block hr
    rintro (h | h | ⟨h1, h⟩ | h)
    · exact cells_ne_type hc hR.tree (by decide) h
    · exact cells_ne_type hc I.cells (by decide) h
    · obtain ⟨es, c', h2, _⟩ := I.map h1
      exact cells_ne_map hc h2 h.symm
    · exact hne (hR.rows n d i di r hn hi hr h)

/-- A node that is none of those that were touched. -/
theorem Rep.others {B : Nat} {w w' : World} {T : Tr} (hR : Rep B w T) {F : Nat → Prop} (k : Kept F w w') (S : List Nat)
    (hF : ∀ b, F b → ∃ i, i ∈ S ∧ ∃ di, T.nd i = some di ∧ Touch T i di b) {n : Nat} {d : Nd} (hn : T.nd n = some d) (hS : n ∉ S) : NodeAt B w' n d := by
  refine (hR.node n d hn).kept k (fun hf => ?_) (fun hd hf => ?_) (fun r hr hf => ?_)
  · obtain ⟨i, hi, di, hdi, ht⟩ := hF _ hf
    exact (hR.apart hn hdi (fun e => hS (e ▸ hi))).1 ht
  · obtain ⟨i, hi, di, hdi, ht⟩ := hF _ hf
    exact (hR.apart hn hdi (fun e => hS (e ▸ hi))).2.1 hd ht
  · obtain ⟨i, hi, di, hdi, ht⟩ := hF _ hf
    exact (hR.apart hn hdi (fun e => hS (e ▸ hi))).2.2 r hr ht

theorem Rep.node_lt {B : Nat} {w : World} {T : Tr} (hR : Rep B w T) {n : Nat} {d : Nd} (h : T.nd n = some d) : n < w.heap.size := hR.lt (.inr (.inl ⟨d, h⟩))

/-- The tree with one file more: block k, its bytes b. -/
def Tr.newFile (T : Tr) (i : Nat) (di : Nd) (nm : ByteArray) (k : Nat) (bv : Value) (b : List UInt8) : Tr :=
  ((T.tick 1).set i { di with names := di.names ++ [(nm, k)], tick := T.clock + 1 }).set k { dir := false, bv := bv, data := b, names := [], mb := 0, links := 1, tick := T.clock + 1 }

theorem newFile_k (T : Tr) (i : Nat) (di : Nd) (nm : ByteArray) (k : Nat) (bv : Value) (b : List UInt8) :
    (T.newFile i di nm k bv b).nd k = some { dir := false, bv := bv, data := b, names := [], mb := 0, links := 1, tick := T.clock + 1 } := by simp [Tr.newFile, Tr.set]
theorem newFile_i (T : Tr) {i : Nat} (di : Nd) (nm : ByteArray) {k : Nat} (bv : Value) (b : List UInt8) (h : i ≠ k) :
    (T.newFile i di nm k bv b).nd i = some { di with names := di.names ++ [(nm, k)], tick := T.clock + 1 } := by simp [Tr.newFile, Tr.set, h]
theorem newFile_other (T : Tr) {i : Nat} (di : Nd) (nm : ByteArray) {k : Nat} (bv : Value) (b : List UInt8) {n : Nat} (h : n ≠ i) (h' : n ≠ k) :
    (T.newFile i di nm k bv b).nd n = T.nd n := by simp [Tr.newFile, Tr.set, Tr.tick, h, h']

/-- What is there of it, node by node. -/
theorem newFile_cases {T : Tr} {i : Nat} {di : Nd} {nm : ByteArray} {k : Nat} {bv : Value} {b : List UInt8} (hik : i ≠ k) {n : Nat} {d : Nd} (h : (T.newFile i di nm k bv b).nd n = some d) :
    (n = k ∧ d = { dir := false, bv := bv, data := b, names := [], mb := 0, links := 1, tick := T.clock + 1 }) ∨
    (n = i ∧ d = { di with names := di.names ++ [(nm, k)], tick := T.clock + 1 }) ∨ (n ≠ i ∧ n ≠ k ∧ T.nd n = some d) := by
  by_cases h1 : n = k
  · subst h1
    rw [newFile_k] at h
    exact .inl ⟨rfl, (Option.some.inj h).symm⟩
  · by_cases h2 : n = i
    · subst h2
      rw [newFile_i T di nm bv b hik] at h
      exact .inr (.inl ⟨rfl, (Option.some.inj h).symm⟩)
    · rw [newFile_other T di nm bv b h2 h1] at h
      exact .inr (.inr ⟨h2, h1, h⟩)

theorem newFile_rep {B : Nat} {w w' : World} {T : Tr} (hR : Rep B w T) (hB : B ≤ w.heap.size) {i : Nat} {di : Nd} (hdi : T.nd i = some di) (hdir : di.dir = true) {nm : ByteArray} {k : Nat} (hk : w.heap.size ≤ k) {bv : Value} {b : List UInt8}
    (hK : Kept (fun x => x = T.tb ∨ x = i ∨ x = di.mb) w w')
    (hT : w'.heap[T.tb]? = some (.cells #[ptrV (some T.root), .int .i64 (T.clock + 1), .int .i64 (T.count + 1)] 139 (0, 0)))
    (hI : w'.heap[i]? = some (.cells #[.bool di.dir, di.bv, mapV di, .int .i64 di.links, .int .i64 (T.clock + 1)] 132 (0, 0)))
    (hM : MapAt w' di.mb (di.names ++ [(nm, k)]))
    (hN : w'.heap[k]? = some (.cells #[.bool false, bv, .map none, .int .i64 1, .int .i64 (T.clock + 1)] 132 (0, 0)))
    (hW : w'.ownsRow w.heap.size 5 1 bv b.length (u8s b)) :
    Rep B w' (T.newFile i di nm k bv b) ∧ (∀ x, (T.newFile i di nm k bv b).foot x → T.foot x ∨ w.heap.size ≤ x) := by
  have hil := hR.node_lt hdi
  have hik : i ≠ k := by omega
  have hF : ∀ x, (x = T.tb ∨ x = i ∨ x = di.mb) → ∃ j, j ∈ [i] ∧ ∃ dj, T.nd j = some dj ∧ Touch T j dj x := by
    rintro x (rfl | rfl | rfl)
    · exact ⟨i, by simp, di, hdi, .inl rfl⟩
    · exact ⟨x, by simp, di, hdi, .inr (.inl rfl)⟩
    · exact ⟨i, by simp, di, hdi, .inr (.inr (.inl ⟨hdir, rfl⟩))⟩
  have hfoot : ∀ x, (T.newFile i di nm k bv b).foot x → T.foot x ∨ w.heap.size ≤ x := by
    rintro x (rfl | ⟨d, hd⟩ | ⟨n, d, hn, h⟩)
    · exact .inl (.inl rfl)
    · rcases newFile_cases hik hd with ⟨rfl, _⟩ | ⟨rfl, _⟩ | ⟨_, _, h3⟩
      · exact .inr hk
      · exact .inl (.inr (.inl ⟨di, hdi⟩))
      · exact .inl (.inr (.inl ⟨d, h3⟩))
    · rcases newFile_cases hik hn with ⟨rfl, rfl⟩ | ⟨rfl, rfl⟩ | ⟨_, _, h3⟩
      · rcases h with ⟨h1, _⟩ | h1
        · cases h1
        · exact .inr (hW.lt x h1).1
      · exact .inl (.inr (.inr ⟨n, di, hdi, h⟩))
      · exact .inl (.inr (.inr ⟨n, d, h3, h⟩))
  refine ⟨⟨fun x hx => ?_, hT, fun n d hn => ?_, fun n d n' d' hn hn' hd hd' he => ?_, fun n d n' d' r hn hn' hr hr' => ?_, ?_, fun n d s q hn hq => ?_⟩, hfoot⟩
  · rcases hfoot x hx with h | h
    · exact hR.low x h
    · omega
  · rcases newFile_cases hik hn with ⟨rfl, rfl⟩ | ⟨rfl, rfl⟩ | ⟨h1, _, h3⟩
    · exact ⟨hN, ⟨hW.1, hW.2.imp id (fun ⟨g, cap, cur, q1, q2, q3⟩ => ⟨g, cap, cur, q1, by omega, q3⟩)⟩, fun h => (by cases h), fun _ => rfl⟩
    · refine ⟨hI, ?_, fun _ => hM, fun h => ?_⟩
      · refine ownsRow_kept (hR.node n di hdi).row hK ?_
        intro r hr
        obtain ⟨c, hc⟩ := (hR.node n di hdi).row_block hr
        obtain ⟨es, ck, hes, _⟩ := (hR.node n di hdi).map hdir
        rintro (h | h | h)
        · exact cells_ne_type hc hR.tree (by decide) h
        · exact cells_ne_type hc (hR.node n di hdi).cells (by decide) h
        · exact cells_ne_map hc hes h
      · have h' : di.dir = false := h
        rw [hdir] at h'
        cases h'
    · exact hR.others hK [i] hF h3 (by simpa using h1)
  · rcases newFile_cases hik hn with ⟨rfl, rfl⟩ | ⟨rfl, rfl⟩ | ⟨_, _, h3⟩
    · cases hd
    · rcases newFile_cases hik hn' with ⟨rfl, rfl⟩ | ⟨rfl, rfl⟩ | ⟨_, _, h3'⟩
      · cases hd'
      · rfl
      · exact hR.maps n di n' d' hdi h3' hdir hd' he
    · rcases newFile_cases hik hn' with ⟨rfl, rfl⟩ | ⟨rfl, rfl⟩ | ⟨_, _, h3'⟩
      · cases hd'
      · exact hR.maps n d n' di h3 hdi hd hdir he
      · exact hR.maps n d n' d' h3 h3' hd hd' he
  · have old : ∀ {m : Nat} {e : Nd}, T.nd m = some e → e.bv.ownBlock = some r → r < w.heap.size := fun {m e} hm hr => hR.lt (.inr (.inr ⟨m, e, hm, .inr hr⟩))
    rcases newFile_cases hik hn with ⟨rfl, rfl⟩ | ⟨rfl, rfl⟩ | ⟨_, _, h3⟩
    · have h1 := (hW.lt r hr).1
      rcases newFile_cases hik hn' with ⟨rfl, rfl⟩ | ⟨rfl, rfl⟩ | ⟨_, _, h3'⟩
      · rfl
      · have := old hdi hr'; omega
      · have := old h3' hr'; omega
    · rcases newFile_cases hik hn' with ⟨rfl, rfl⟩ | ⟨rfl, rfl⟩ | ⟨_, _, h3'⟩
      · have h1 := (hW.lt r hr').1
        have := old hdi hr; omega
      · rfl
      · exact hR.rows n di n' d' r hdi h3' hr hr'
    · rcases newFile_cases hik hn' with ⟨rfl, rfl⟩ | ⟨rfl, rfl⟩ | ⟨_, _, h3'⟩
      · have h1 := (hW.lt r hr').1
        have := old h3 hr; omega
      · exact hR.rows n d n' di r h3 hdi hr hr'
      · exact hR.rows n d n' d' r h3 h3' hr hr'
  · obtain ⟨d, hd, hdd⟩ := hR.root
    have hne : T.root ≠ k := by have := hR.node_lt hd; omega
    by_cases h : T.root = i
    · refine ⟨{ di with names := di.names ++ [(nm, k)], tick := T.clock + 1 }, ?_, hdir⟩
      show (T.newFile i di nm k bv b).nd T.root = _
      rw [h]
      exact newFile_i T di nm bv b hik
    · exact ⟨d, (newFile_other T di nm bv b h hne).trans hd, hdd⟩
  · have look' : ∀ q, (∃ d', T.nd q = some d') → ∃ d', (T.newFile i di nm k bv b).nd q = some d' := by
      rintro q ⟨d', hd'⟩
      by_cases h1 : q = k
      · exact ⟨_, (congrArg _ h1).trans (newFile_k T i di nm k bv b)⟩
      · by_cases h2 : q = i
        · exact ⟨_, (congrArg _ h2).trans (newFile_i T di nm bv b hik)⟩
        · exact ⟨d', (newFile_other T di nm bv b h2 h1).trans hd'⟩
    rcases newFile_cases hik hn with ⟨rfl, rfl⟩ | ⟨rfl, rfl⟩ | ⟨_, _, h3⟩
    · cases hq
    · rcases List.mem_append.1 hq with h | h
      · exact look' q (hR.kids n di s q hdi h)
      · simp only [List.mem_singleton, Prod.mk.injEq] at h
        obtain ⟨_, rfl⟩ := h
        exact ⟨_, newFile_k T n di nm q bv b⟩
    · exact look' q (hR.kids n d s q h3 hq)

/-- The tree, node k's bytes laid anew. -/
def Tr.setData (T : Tr) (k : Nat) (d : Nd) (bv : Value) (b : List UInt8) : Tr := (T.tick 0).set k { d with bv := bv, data := b, tick := T.clock + 1 }

theorem set_k (T : Tr) (k : Nat) (d : Nd) : (T.set k d).nd k = some d := by simp [Tr.set]
theorem set_other (T : Tr) {k n : Nat} (d : Nd) (h : n ≠ k) : (T.set k d).nd n = T.nd n := by simp [Tr.set, h]
theorem set_cases {T : Tr} {k n : Nat} {d e : Nd} (h : (T.set k d).nd n = some e) : (n = k ∧ e = d) ∨ (n ≠ k ∧ T.nd n = some e) := by
  by_cases h1 : n = k
  · subst h1; rw [set_k] at h; exact .inl ⟨rfl, (Option.some.inj h).symm⟩
  · rw [set_other _ _ h1] at h; exact .inr ⟨h1, h⟩

theorem setData_rep {B : Nat} {w w' : World} {T : Tr} (hR : Rep B w T) {k : Nat} {d : Nd} (hd : T.nd k = some d) (hdir : d.dir = false) {bv : Value} {b : List UInt8}
    (hK : Kept (Touch T k d) w w')
    (hT : w'.heap[T.tb]? = some (.cells #[ptrV (some T.root), .int .i64 (T.clock + 1), .int .i64 T.count] 139 (0, 0)))
    (hN : w'.heap[k]? = some (.cells #[.bool d.dir, bv, mapV d, .int .i64 d.links, .int .i64 (T.clock + 1)] 132 (0, 0)))
    (hW : w'.ownsRow B 5 1 bv b.length (u8s b)) (hnew : ∀ r, bv.ownBlock = some r → w.heap.size ≤ r ∨ d.bv.ownBlock = some r) :
    Rep B w' (T.setData k d bv b) ∧ (∀ x, (T.setData k d bv b).foot x → T.foot x ∨ w.heap.size ≤ x) := by
  have hF : ∀ x, Touch T k d x → ∃ j, j ∈ [k] ∧ ∃ dj, T.nd j = some dj ∧ Touch T j dj x := fun x hx => ⟨k, by simp, d, hd, hx⟩
  have hfoot : ∀ x, (T.setData k d bv b).foot x → T.foot x ∨ w.heap.size ≤ x := by
    rintro x (rfl | ⟨e, he⟩ | ⟨n, e, hn, h⟩)
    · exact .inl (.inl rfl)
    · rcases set_cases he with ⟨rfl, _⟩ | ⟨_, h3⟩
      · exact .inl (.inr (.inl ⟨d, hd⟩))
      · exact .inl (.inr (.inl ⟨e, h3⟩))
    · rcases set_cases hn with ⟨rfl, rfl⟩ | ⟨_, h3⟩
      · rcases h with ⟨h1, rfl⟩ | h1
        · exact .inl (.inr (.inr ⟨n, d, hd, .inl ⟨h1, rfl⟩⟩))
        · rcases hnew x h1 with h2 | h2
          · exact .inr h2
          · exact .inl (.inr (.inr ⟨n, d, hd, .inr h2⟩))
      · exact .inl (.inr (.inr ⟨n, e, h3, h⟩))
  refine ⟨⟨fun x hx => ?_, ?_, fun n e hn => ?_, fun n e n' e' hn hn' h h' he => ?_, fun n e n' e' r hn hn' hr hr' => ?_, ?_, fun n e s q hn hq => ?_⟩, hfoot⟩
  · rcases hx with rfl | ⟨e, he⟩ | ⟨n, e, hn, h⟩
    · exact hR.low _ (.inl rfl)
    · rcases set_cases he with ⟨rfl, _⟩ | ⟨_, h3⟩
      · exact hR.low _ (.inr (.inl ⟨d, hd⟩))
      · exact hR.low _ (.inr (.inl ⟨e, h3⟩))
    · rcases set_cases hn with ⟨rfl, rfl⟩ | ⟨_, h3⟩
      · rcases h with ⟨h1, rfl⟩ | h1
        · exact hR.low _ (.inr (.inr ⟨n, d, hd, .inl ⟨h1, rfl⟩⟩))
        · exact (hW.lt x h1).1
      · exact hR.low _ (.inr (.inr ⟨n, e, h3, h⟩))
  · show w'.heap[T.tb]? = some (.cells #[ptrV (some T.root), .int .i64 (T.clock + 1), .int .i64 (T.count + 0)] 139 (0, 0))
    rw [Int.add_zero]
    exact hT
  · rcases set_cases hn with ⟨rfl, rfl⟩ | ⟨h1, h3⟩
    · refine ⟨hN, hW, fun h => ?_, (hR.node n d hd).file⟩
      have h' : d.dir = true := h
      rw [hdir] at h'
      cases h'
    · exact hR.others hK [k] hF h3 (by simpa using h1)
  · rcases set_cases hn with ⟨rfl, rfl⟩ | ⟨_, h3⟩
    · have h' : d.dir = true := h
      rw [hdir] at h'
      cases h'
    · rcases set_cases hn' with ⟨rfl, rfl⟩ | ⟨_, h3'⟩
      · have h2 : d.dir = true := h'
        rw [hdir] at h2
        cases h2
      · exact hR.maps n e n' e' h3 h3' h h' he
  · have key : ∀ {m : Nat} {f : Nd}, m ≠ k → T.nd m = some f → f.bv.ownBlock = some r → bv.ownBlock = some r → False := by
      intro m f hm hf h1 h2
      rcases hnew r h2 with h3 | h3
      · have := hR.lt (.inr (.inr ⟨m, f, hf, .inr h1⟩)); omega
      · exact hm (hR.rows m f k d r hf hd h1 h3)
    rcases set_cases hn with ⟨rfl, rfl⟩ | ⟨h1, h3⟩
    · rcases set_cases hn' with ⟨rfl, rfl⟩ | ⟨h1', h3'⟩
      · rfl
      · exact (key h1' h3' hr' hr).elim
    · rcases set_cases hn' with ⟨rfl, rfl⟩ | ⟨h1', h3'⟩
      · exact (key h1 h3 hr hr').elim
      · exact hR.rows n e n' e' r h3 h3' hr hr'
  · obtain ⟨e, he, hed⟩ := hR.root
    by_cases h : T.root = k
    · rw [h, hd] at he
      obtain rfl := Option.some.inj he
      rw [hdir] at hed
      cases hed
    · exact ⟨e, (set_other _ _ h).trans he, hed⟩
  · have look' : ∀ q, (∃ d', T.nd q = some d') → ∃ d', (T.setData k d bv b).nd q = some d' := by
      rintro q ⟨d', hd'⟩
      by_cases h1 : q = k
      · exact ⟨_, (congrArg _ h1).trans (set_k _ _ _)⟩
      · exact ⟨d', (set_other _ _ h1).trans hd'⟩
    rcases set_cases hn with ⟨rfl, rfl⟩ | ⟨_, h3⟩
    · exact look' q (hR.kids n d s q hd hq)
    · exact look' q (hR.kids n e s q h3 hq)
end Go.Proofs.YtiejfbkbjahcgaaGreatDoor
