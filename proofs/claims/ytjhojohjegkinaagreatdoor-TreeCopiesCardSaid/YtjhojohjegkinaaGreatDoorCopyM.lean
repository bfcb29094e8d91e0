/-
  A copy of a tree in memory: the map of what was made; a range over a directory's names; what stands while a copy is made.
-/
import Derived.Test.YtjhojohjegkinaaGreatDoorCopyL
import Derived.LaidEqlPtr
import Derived.Maps.RangeWalk
import Derived.Maps.RangeRun
namespace Go.Proofs.YtjhojohjegkinaaGreatDoor
open Go Go.RowKit

/-! ### the map of what was made -/
abbrev nP (n : Nat) : Value := .pointer (some ⟨n, 0, none⟩)
def MadeAt (w : World) (md : Nat) (L : List (Nat × Nat)) : Prop :=
  ∃ es clock, w.heap[md]? = some (.map es clock) ∧ es.toList.map (fun e => (e.key, e.val)) = L.map (fun p => (nP p.1, nP p.2)) ∧ MapKept.Stamped es clock
theorem MadeAt.kept {w w' : World} {md : Nat} {L : List (Nat × Nat)} {F : Nat → Prop} (h : MadeAt w md L) (k : Kept F w w') (hF : ¬ F md) : MadeAt w' md L := by
  obtain ⟨es, c, h1, h2⟩ := h
  exact ⟨es, c, (k.block md (lt_of_heap h1) hF).trans h1, h2⟩
def NodeB (w : World) (n : Nat) : Prop := ∃ c, w.heap[n]? = some (.cells c 126 (0, 0))
theorem NodeB.kept {w w' : World} {n : Nat} {F : Nat → Prop} (h : NodeB w n) (k : Kept F w w') (hF : ¬ F n) : NodeB w' n := by
  obtain ⟨c, h1⟩ := h
  exact ⟨c, (k.block n (lt_of_heap h1) hF).trans h1⟩
theorem infoTNode : (Tryz.prog.info? 126).map (·.size) = some 5 := by kernel_rfl
theorem equal_node {w : World} {a b : Nat} (ha : NodeB w a) (hb : NodeB w b) : (Op.equal 121 (nP a) (nP b)).run Tryz.prog w = .ok (a == b) w := by
  obtain ⟨ca, ha⟩ := ha
  obtain ⟨cb, hb⟩ := hb
  have hp := Tryz.underlying121
  obtain ⟨j, hj, hsz⟩ : ∃ j, Tryz.prog.info? 126 = some j ∧ j.size ≠ 0 := by
    have h := infoTNode
    cases hi : Tryz.prog.info? 126 with
    | none => rw [hi] at h; cases h
    | some j =>
      rw [hi] at h
      have h : some j.size = some 5 := h
      exact ⟨j, rfl, by rw [Option.some.inj h]; decide⟩
  by_cases e : a = b
  · subst e
    rw [beq_self_eq_true]
    have h : ∀ d : Nat, (Op.equalIn (d + 1) 121 (nP a) (nP a)).run Tryz.prog w = .ok true w := fun d => by
      simp [Op.equalIn, run_underlying hp, sizeOf, typeInfo, hj, run_sameAddr_same]
    exact h 9999
  · have hne : (⟨a, 0, none⟩ : Addr) ≠ ⟨b, 0, none⟩ := fun h => e (by cases h; rfl)
    have h : ∀ d : Nat, (Op.equalIn (d + 1) 121 (nP a) (nP b)).run Tryz.prog w = .ok false w := fun d => by
      simp [Op.equalIn, run_underlying hp, sizeOf, typeInfo, hj, hsz, run_sameAddr_other w hne ha hb]
    rw [show (a == b) = false by simpa using e]
    exact h 9999
theorem lkC_idx (L : List (Nat × Nat)) (n : Nat) : lkC L n = (L.findIdx? (fun p => n == p.1)).map fun j => ((L[j]?).map (·.2)).getD 0 := by
  unfold lkC
  induction L with
  | nil => rfl
  | cons p l ih =>
    simp only [List.find?_cons, List.findIdx?_cons]
    by_cases hs : (n == p.1) = true
    · rw [hs]; simp
    · have hs' : (n == p.1) = false := by simpa using hs
      rw [hs', ih]
      simp [Option.map_map, Function.comp_def]
theorem findAsking_made {w : World} {n : Nat} (hn : NodeB w n) : ∀ (es : List MapEntry) (L : List (Nat × Nat)) (i : Nat),
    es.map (fun e => (e.key, e.val)) = L.map (fun p => (nP p.1, nP p.2)) → (∀ p ∈ L, NodeB w p.1) →
    (Instr.findAsking 121 (nP n) es i).run Tryz.prog w = .ok ((L.findIdx? (fun p => n == p.1)).map fun j => (i + j, nP (((L[j]?).map (·.2)).getD 0))) w
  | [], L, i, h, _ => by
    cases L with
    | nil => simp [Instr.findAsking]
    | cons a l => cases h
  | e :: es, L, i, h, hL => by
    cases L with
    | nil => cases h
    | cons p l =>
      simp only [List.map_cons, List.cons.injEq, Prod.mk.injEq] at h
      obtain ⟨⟨hk, hv⟩, hr⟩ := h
      have he := equal_node hn (hL p (List.mem_cons_self ..))
      have ih := findAsking_made hn es l (i + 1) hr (fun q hq => hL q (List.mem_cons_of_mem _ hq))
      unfold Instr.findAsking
      rw [hk]
      simp only [Sem.run_bind, he, Result.andThen, List.findIdx?_cons]
      by_cases hs : (n == p.1) = true
      · rw [hs]; simp [hv]
      · have hs' : (n == p.1) = false := by simpa using hs
        rw [hs']
        simp only [Bool.false_eq_true, if_false, ih]
        refine congrArg (fun o => Result.ok o w) ?_
        cases List.findIdx? (fun p => n == p.1) l with
        | none => rfl
        | some q => simp [Nat.add_comm, Nat.add_left_comm]
theorem findKey_made {w : World} {n : Nat} (hn : NodeB w n) (es : List MapEntry) (L : List (Nat × Nat)) (h : es.map (fun e => (e.key, e.val)) = L.map (fun p => (nP p.1, nP p.2))) (hL : ∀ p ∈ L, NodeB w p.1) :
    (Instr.findKey 121 (nP n) es).run Tryz.prog w = .ok ((L.findIdx? (fun p => n == p.1)).map fun j => (j, nP (((L[j]?).map (·.2)).getD 0))) w := by
  have hp := Tryz.underlying121
  have ha := findAsking_made hn es L 0 h hL
  simp only [Nat.zero_add] at ha
  unfold Instr.findKey
  cases es with
  | nil =>
    cases L with
    | nil => simp [run_underlying hp, Instr.findNow]
    | cons a l => cases h
  | cons e es =>
    simp only [Sem.run_bind, run_underlying hp, Result.andThen, Instr.findNow, Instr.sameNow]
    exact ha
theorem checkKey_node (e : Bool) (n k : Nat) (w : World) : (Instr.checkKey e (n + 1) 121 (nP k)).run Tryz.prog w = .ok () w := by
  unfold Instr.checkKey
  simp [run_underlying Tryz.underlying121]
theorem run_lookup_made {w : World} {md n : Nat} {L : List (Nat × Nat)} (h : MadeAt w md L) (hn : NodeB w n) (hL : ∀ p ∈ L, NodeB w p.1) :
    (Instr.lookup 143 (.map (some md)) (nP n) false).run Tryz.prog w = .ok (ptrV (lkC L n)) w := by
  obtain ⟨es, clock, hb, he, _⟩ := h
  have hm := Tryz.underlying143
  have hz : (zeroValue 121).run Tryz.prog w = .ok (.pointer none) w := by kernel_rfl
  have hf := findKey_made hn es.toList L he hL
  have hg : (getObj md).run Tryz.prog w = .ok (.map es clock) w := MapKept.run_getObj_map hb
  have hc := checkKey_node es.isEmpty 9999 n w
  rw [lkC_idx]
  cases hj : L.findIdx? (fun p => n == p.1) with
  | none =>
    rw [hj] at hf
    simp [Instr.lookup, run_underlying hm, hg, hc, hf, hz, ptrV, Result.andThen]
  | some j =>
    rw [hj] at hf
    simp [Instr.lookup, run_underlying hm, hg, hc, hf, ptrV, Result.andThen]
theorem lkC_none_idx {L : List (Nat × Nat)} {n : Nat} (h : lkC L n = none) : L.findIdx? (fun p => n == p.1) = none := by
  rw [lkC_idx] at h
  cases hj : L.findIdx? (fun p => n == p.1) with
  | none => rfl
  | some j => rw [hj] at h; cases h
theorem run_update_made {w : World} {md n : Nat} {L : List (Nat × Nat)} (h : MadeAt w md L) (hn : NodeB w n) (hL : ∀ p ∈ L, NodeB w p.1) (hnew : lkC L n = none) (c : Nat) :
    ∃ w', (Instr.mapUpdate 143 (.map (some md)) (nP n) (nP c)).run Tryz.prog w = .ok () w' ∧ MadeAt w' md (L ++ [(n, c)]) ∧ Kept (fun b => b = md) w w' := by
  obtain ⟨es, clock, hb, he, hsd⟩ := h
  have hm := Tryz.underlying143
  have hf := findKey_made hn es.toList L he hL
  rw [lkC_none_idx hnew] at hf
  have hg : (getObj md).run Tryz.prog w = .ok (.map es clock) w := MapKept.run_getObj_map hb
  have hc := checkKey_node false 9999 n w
  have hst := MapKept.run_setObj_map (P := Tryz.prog) (Obj.map (es.push { key := nP n, val := nP c, born := clock }) (clock + 1)) hb
  refine ⟨{ w with heap := w.heap.setIfInBounds md (Obj.map (es.push { key := nP n, val := nP c, born := clock }) (clock + 1)) }, ?_, ?_, Kept.setHeap w md _⟩
  · simp [Instr.mapUpdate, run_underlying hm, hg, hc, hf, hst, Result.andThen]
  · refine ⟨_, _, heap_setHeap (lt_of_heap hb) _, by simp [he], MapKept.stamped_push hsd (fun x hx hk => ?_)⟩
    have h1 : (x.key, x.val) ∈ es.toList.map (fun e => (e.key, e.val)) := List.mem_map.2 ⟨x, hx, rfl⟩
    rw [he] at h1
    obtain ⟨p, hp, h2⟩ := List.mem_map.1 h1
    simp only [Prod.mk.injEq] at h2
    rw [hk] at h2
    have h3 : p.1 = n := by simpa [nP] using h2.1
    exact lkC_none hnew (List.mem_map.2 ⟨p, hp, h3⟩)
theorem wpList_update_made (w : World) {ops : Array Oper} {rest : List Oper} {o : Oper} {a : Act} {Q : Exit → Act → World → Prop} (hg : o.guard = none) (m x v : Operand) (hop : o.op = Op.mapUpdate 143 m x v)
    (md n c : Nat) (L : List (Nat × Nat)) (hm : a.eval m = .map (some md)) (hx : a.eval x = nP n) (hv : a.eval v = nP c) (h : MadeAt w md L) (hn : NodeB w n) (hL : ∀ p ∈ L, NodeB w p.1) (hnew : lkC L n = none)
    (hK : ∀ w', MadeAt w' md (L ++ [(n, c)]) → Kept (fun b => b = md) w w' → wpList Tryz.prog ops Q rest (a.put o.dst undef) w') : wpList Tryz.prog ops Q (o :: rest) a w := by
  refine wpList_plain hg fun K' hK' => ?_
  obtain ⟨w', hrun, r1, r2⟩ := run_update_made h hn hL hnew c
  unfold Oper.wp
  simp [execOp, hop, hm, hx, hv, hrun, Result.andThen]
  exact hK' _ _ (hK w' r1 r2)

/-! ### a range over a directory's names -/
abbrev nmV (l : List (ByteArray × Nat)) : List (Value × Value) := l.map (fun p => (Value.string p.1, nP p.2))
/-- The iterator in block r over the names in block mb; done: what has come. -/
def ItAt (w : World) (mb r : Nat) (names done : List (ByteArray × Nat)) (left : Nat) : Prop :=
  ∃ es clock since seen c0, w.heap[mb]? = some (.map es clock) ∧ es.toList.map (fun e => (e.key, e.val)) = nmV names ∧ MapKept.Stamped es clock ∧
    w.heap[r]? = some (.mapIter (some mb) since seen c0) ∧ (∀ x ∈ es.toList, x.born < since) ∧ since ≤ c0 ∧ since ≤ clock ∧ (leftOf es seen).size = left ∧
    (∀ x ∈ es.toList, seen.contains x.born = true ↔ ∃ p ∈ done, x.key = .string p.1) ∧ (∀ p ∈ done, p ∈ names) ∧ (done.map (·.1)).Nodup
theorem ItAt.kept {w w' : World} {mb r : Nat} {names done : List (ByteArray × Nat)} {left : Nat} {F : Nat → Prop} (h : ItAt w mb r names done left) (k : Kept F w w') (h1 : ¬ F mb) (h2 : ¬ F r) : ItAt w' mb r names done left := by
  obtain ⟨es, clock, since, seen, c0, a1, a2, a3, a4, a5⟩ := h
  exact ⟨es, clock, since, seen, c0, (k.block mb (lt_of_heap a1) h1).trans a1, a2, a3, (k.block r (lt_of_heap a4) h2).trans a4, a5⟩
theorem run_range_names {w : World} {mb : Nat} {names : List (ByteArray × Nat)} (h : MapAt w mb names) :
    ∃ o left, (Instr.range 124 (.map (some mb))).run Tryz.prog w = .ok (.pointer (some ⟨w.heap.size, 0, none⟩)) (w.alloc o) ∧ ItAt (w.alloc o) mb w.heap.size names [] left := by
  obtain ⟨es, clock, hb, he, hsd⟩ := h
  have hs := (MapKept.stamped_iff es clock).1 hsd
  refine ⟨_, _, run_range_map w _ _ _ mb es clock Tryz.underlying124 hb, es, clock, clock, #[], clock, below_heap (below_alloc w _) (lt_of_heap hb) hb, he, hsd, heap_alloc_new w _, hs.1, Nat.le_refl _, Nat.le_refl _, rfl, fun x _ => ?_, fun p hp => (by cases hp), List.nodup_nil⟩
  constructor
  · intro h; simp at h
  · rintro ⟨p, hp, _⟩; cases hp
theorem nm_nodup {names : List (ByteArray × Nat)} (h : (names.map (·.1)).Nodup) : names.Nodup := List.Pairwise.of_map (·.1) (fun a b hab e => hab (by rw [e])) h
theorem ItAt.next {w : World} {mb r : Nat} {names done : List (ByteArray × Nat)} {left : Nat} (h : ItAt w mb r names done left) (hnd : (names.map (·.1)).Nodup) (ty : TypeId) :
    (done.Perm names ∧ (Instr.next (.pointer (some ⟨r, 0, none⟩)) false ty).run Tryz.prog w = .ok (.tuple #[.bool false]) w) ∨
    ∃ s k w' left', (s, k) ∈ names ∧ s ∉ done.map (·.1) ∧ (Instr.next (.pointer (some ⟨r, 0, none⟩)) false ty).run Tryz.prog w = .ok (.tuple #[.bool true, .string s, nP k]) w' ∧
      ItAt w' mb r names (done ++ [(s, k)]) left' ∧ left' < left ∧ Kept (fun b => b = r) w w' ∧ w'.heap.size = w.heap.size ∧ (Instr.entry (.pointer (some ⟨r, 0, none⟩))).run Tryz.prog w' = .ok (.tuple #[.string s, nP k]) w' := by
  obtain ⟨es, clock, since, seen, c0, hb, he, hsd, hr, hold, hsc, hsk, rfl, hseen, hdone, hdn⟩ := h
  have hne : r ≠ mb := fun e => by rw [e, hb] at hr; cases hr
  have hst := (MapKept.stamped_iff es clock).1 hsd
  have form : ∀ x ∈ es.toList, ∃ p ∈ names, x.key = .string p.1 ∧ x.val = nP p.2 := fun x hx => by
    have h1 : (x.key, x.val) ∈ es.toList.map (fun e => (e.key, e.val)) := List.mem_map.2 ⟨x, hx, rfl⟩
    rw [he] at h1
    obtain ⟨p, hp, h2⟩ := List.mem_map.1 h1
    simp only [Prod.mk.injEq] at h2
    exact ⟨p, hp, h2.1.symm, h2.2.symm⟩
  have back : ∀ p ∈ names, ∃ x ∈ es.toList, x.key = .string p.1 ∧ x.val = nP p.2 := fun p hp => by
    have h1 : (Value.string p.1, nP p.2) ∈ nmV names := List.mem_map.2 ⟨p, hp, rfl⟩
    rw [← he] at h1
    obtain ⟨x, hx, h2⟩ := List.mem_map.1 h1
    simp only [Prod.mk.injEq] at h2
    exact ⟨x, hx, h2.1, h2.2⟩
  have one : ∀ p ∈ names, ∀ q ∈ names, p.1 = q.1 → p = q := fun p hp q hq e => by
    have a := look_of_mem (s := p.1) (k := p.2) hnd hp
    have b := look_of_mem (s := q.1) (k := q.2) hnd hq
    rw [← e, a] at b
    exact Prod.ext e (Option.some.inj b)
  rcases run_next_at (P := Tryz.prog) w ty r mb since c0 seen es clock hr hb hold hsc with ⟨h0, hrun⟩ | ⟨e, hel, w1, hal, hrun⟩
  · refine .inl ⟨(List.perm_ext_iff_of_nodup (nm_nodup hdn) (nm_nodup hnd)).2 fun p => ⟨hdone p, fun hp => ?_⟩, hrun⟩
    obtain ⟨x, hx, hk, _⟩ := back p hp
    obtain ⟨q, hq, hk2⟩ := (hseen x hx).1 (all_seen es seen h0 x hx)
    rw [hk] at hk2
    have e1 : p.1 = q.1 := by simpa using hk2
    rw [one p hp q (hdone q hq) e1]
    exact hq
  · obtain ⟨hem, hes⟩ := mem_left hel
    obtain ⟨p, hp, hk, hv⟩ := form e hem
    have hr1 : w1.heap[r]? = some (.mapIter (some mb) since seen c0) := by rcases hal with rfl | rfl <;> exact hr
    have hb1 : w1.heap[mb]? = some (.map es clock) := by rcases hal with rfl | rfl <;> exact hb
    have hk1 : Kept (fun b => b = r) w w1 := by
      rcases hal with rfl | rfl
      · exact Kept.refl _ _
      · exact Kept.of_below (Below.refl _ _).drew _
    have hs1 : w1.heap.size = w.heap.size := by rcases hal with rfl | rfl <;> rfl
    have hk2 : Kept (fun b => b = r) w1 (ChangeMaps.setBlock w1 r (.mapIter (some mb) since (seen.push e.born) clock)) := Kept.setHeap w1 r _
    have hrr : (ChangeMaps.setBlock w1 r (.mapIter (some mb) since (seen.push e.born) clock)).heap[r]? = some (.mapIter (some mb) since (seen.push e.born) clock) := heap_setHeap (lt_of_heap hr1) _
    have hbb : (ChangeMaps.setBlock w1 r (.mapIter (some mb) since (seen.push e.born) clock)).heap[mb]? = some (.map es clock) := (hk2.block mb (lt_of_heap hb1) (fun e => hne e.symm)).trans hb1
    have hnot : p.1 ∉ done.map (·.1) := fun hm => by
      obtain ⟨q, hq, e2⟩ := List.mem_map.1 hm
      have := (hseen e hem).2 ⟨q, hq, by rw [hk, e2]⟩
      rw [hes] at this
      cases this
    have hent := run_entry_at (P := Tryz.prog) (ChangeMaps.setBlock w1 r (.mapIter (some mb) since (seen.push e.born) clock)) r mb since seen es clock e hrr hbb hem hst.2.1
    rw [hk, hv] at hrun hent
    refine .inr ⟨p.1, p.2, _, _, hp, hnot, hrun, ⟨es, clock, since, seen.push e.born, clock, hbb, he, hsd, hrr, hold, hsk, hsk, rfl, fun x hx => ?_, fun q hq => ?_, ?_⟩, left_shrinks es seen e hel, hk1.trans hk2 (fun b h => .inl h), ?_, hent⟩
    · rw [contains_push, Bool.or_eq_true, hseen x hx]
      constructor
      · rintro (⟨q, hq, h2⟩ | h2)
        · exact ⟨q, List.mem_append_left _ hq, h2⟩
        · have h3 : x.born = e.born := by simpa using h2
          obtain rfl := born_inj hst.2.1 hx hem h3
          exact ⟨p, by simp, hk⟩
      · rintro ⟨q, hq, h2⟩
        rcases List.mem_append.1 hq with h3 | h3
        · exact .inl ⟨q, h3, h2⟩
        · have h4 : q = (p.1, p.2) := by simpa using h3
          rw [h4] at h2
          obtain ⟨p', hp', hk', _⟩ := form x hx
          right
          have h5 : x.key = e.key := by rw [h2, hk]
          by_cases h6 : x = e
          · rw [h6]; simp
          · exfalso
            have h7 : ∀ {l : List MapEntry}, l.Pairwise (fun x y => x.key ≠ y.key) → x ∈ l → e ∈ l → False := fun {l} hl hx he => by
              induction l with
              | nil => cases hx
              | cons a l ih =>
                obtain ⟨g1, g2⟩ := List.pairwise_cons.1 hl
                rcases List.mem_cons.1 hx with x1 | x1
                · rcases List.mem_cons.1 he with y1 | y1
                  · exact h6 (x1.trans y1.symm)
                  · exact g1 e y1 (x1 ▸ h5)
                · rcases List.mem_cons.1 he with y1 | y1
                  · exact g1 x x1 (y1 ▸ h5.symm)
                  · exact ih g2 x1 y1
            exact h7 hst.2.2 hx hem
    · rcases List.mem_append.1 hq with h3 | h3
      · exact hdone q h3
      · have h4 : q = (p.1, p.2) := by simpa using h3
        rw [h4]; exact hp
    · rw [List.map_append, List.map_singleton, List.nodup_append]
      refine ⟨hdn, by simp, fun a ha b hb' => ?_⟩
      have : b = p.1 := by simpa using hb'
      rintro rfl
      exact hnot (this ▸ ha)
    · show (w1.heap.setIfInBounds r _).size = _
      rw [Array.size_setIfInBounds, hs1]
theorem wpList_range_names (w : World) {ops : Array Oper} {rest : List Oper} {o : Oper} {a : Act} {Q : Exit → Act → World → Prop} (hg : o.guard = none) (m : Operand) (hop : o.op = Op.range 124 m)
    (mb : Nat) (names : List (ByteArray × Nat)) (hm : a.eval m = .map (some mb)) (h : MapAt w mb names)
    (hK : ∀ w' left, ItAt w' mb w.heap.size names [] left → Below w.heap.size w w' → w'.heap.size = w.heap.size + 1 → wpList Tryz.prog ops Q rest (a.put o.dst (.pointer (some ⟨w.heap.size, 0, none⟩))) w') : wpList Tryz.prog ops Q (o :: rest) a w := by
  refine wpList_plain hg fun K' hK' => ?_
  obtain ⟨ob, left, hrun, r1⟩ := run_range_names h
  unfold Oper.wp
  simp [execOp, hop, hm, hrun, Result.andThen]
  exact hK' _ _ (hK _ left r1 (below_alloc _ _) (by simp))
theorem wpList_next_names (w : World) {ops : Array Oper} {rest : List Oper} {o : Oper} {a : Act} {Q : Exit → Act → World → Prop} (hg : o.guard = none) (it : Operand) (hop : o.op = Op.next it false)
    (mb r : Nat) (names done : List (ByteArray × Nat)) (left : Nat) (hit : a.eval it = .pointer (some ⟨r, 0, none⟩)) (h : ItAt w mb r names done left) (hnd : (names.map (·.1)).Nodup)
    (hDone : done.Perm names → wpList Tryz.prog ops Q rest (a.put o.dst (.tuple #[.bool false])) w)
    (hMore : ∀ s k w' left', (s, k) ∈ names → s ∉ done.map (·.1) → ItAt w' mb r names (done ++ [(s, k)]) left' → left' < left → Kept (fun b => b = r) w w' → w'.heap.size = w.heap.size →
      (Instr.entry (.pointer (some ⟨r, 0, none⟩))).run Tryz.prog w' = .ok (.tuple #[.string s, nP k]) w' → wpList Tryz.prog ops Q rest (a.put o.dst (.tuple #[.bool true, .string s, nP k])) w') :
    wpList Tryz.prog ops Q (o :: rest) a w := by
  refine wpList_plain hg fun K' hK' => ?_
  unfold Oper.wp
  rcases h.next hnd o.type with ⟨h0, hrun⟩ | ⟨s, k, w', left', h1, h2, hrun, h3, h4, h5, h6, h7⟩
  · simp [execOp, hop, hit, hrun, Result.andThen]
    exact hK' _ _ (hDone h0)
  · simp [execOp, hop, hit, hrun, Result.andThen]
    exact hK' _ _ (hMore s k w' left' h1 h2 h3 h4 h5 h6 h7)

/-! ### what stands while a copy is made -/
structure CM (B : Nat) (w : World) (md : Nat) (L : List (Nat × Nat)) (C : Nat → Option Nd) : Prop where
  made : MadeAt w md L
  low : B ≤ md
  node : ∀ c e, C c = some e → NodeAt B w c e ∧ B ≤ c ∧ (e.dir = true → B ≤ e.mb ∧ e.mb ≠ md)
  maps : ∀ c e c' e', C c = some e → C c' = some e' → e.dir = true → e'.dir = true → e.mb = e'.mb → c = c'
  rows : ∀ c e c' e' b, C c = some e → C c' = some e' → e.bv.ownBlock = some b → e'.bv.ownBlock = some b → c = c'
def updC (C : Nat → Option Nd) (c : Nat) (e : Nd) : Nat → Option Nd := fun x => if x = c then some e else C x
theorem updC_same (C : Nat → Option Nd) (c : Nat) (e : Nd) : updC C c e c = some e := if_pos rfl
theorem updC_other (C : Nat → Option Nd) {c x : Nat} (e : Nd) (h : x ≠ c) : updC C c e x = C x := if_neg h
theorem CM.lt {B : Nat} {w : World} {md : Nat} {L : List (Nat × Nat)} {C : Nat → Option Nd} (h : CM B w md L C) {c : Nat} {e : Nd} (hc : C c = some e) : c < w.heap.size ∧ (∀ b, e.bv.ownBlock = some b → b < w.heap.size) ∧ (e.dir = true → e.mb < w.heap.size) := by
  have hn := (h.node c e hc).1
  refine ⟨lt_of_heap hn.cells, fun b hb => (hn.row.lt b hb).2, fun hd => ?_⟩
  obtain ⟨es, k, h1, _⟩ := hn.map hd
  exact lt_of_heap h1
/-- Blocks that are neither a copy's nor the map of what was made may turn. -/
theorem CM.kept {B : Nat} {w w' : World} {md : Nat} {L : List (Nat × Nat)} {C : Nat → Option Nd} {F : Nat → Prop} (h : CM B w md L C) (k : Kept F w w') (hm : ¬ F md) (hF : ∀ c e, C c = some e → ¬ F c ∧ (e.dir = true → ¬ F e.mb) ∧ ∀ b, e.bv.ownBlock = some b → ¬ F b) : CM B w' md L C where
  made := h.made.kept k hm
  low := h.low
  node c e hc := by
    obtain ⟨h1, h2, h3⟩ := h.node c e hc
    obtain ⟨g1, g2, g3⟩ := hF c e hc
    exact ⟨⟨(k.block c (lt_of_heap h1.cells) g1).trans h1.cells, ownsRow_kept h1.row k g3, fun hd => (h1.map hd).kept k (g2 hd), h1.file⟩, h2, h3⟩
  maps := h.maps
  rows := h.rows
theorem CM.below {B : Nat} {w w' : World} {md : Nat} {L : List (Nat × Nat)} {C : Nat → Option Nd} (h : CM B w md L C) (k : Below w.heap.size w w') : CM B w' md L C :=
  h.kept (Kept.of_below k (fun _ => False)) (fun h => h) (fun _ _ _ => ⟨fun h => h, fun _ h => h, fun _ _ h => h⟩)
/-- One more copy, in new blocks. -/
theorem CM.add {B : Nat} {w w' : World} {md : Nat} {L : List (Nat × Nat)} {C : Nat → Option Nd} {n c : Nat} {e : Nd} (h : CM B w md L C) (hB : B ≤ w.heap.size) (k : Kept (fun b => b = md) w w') (hmade : MadeAt w' md (L ++ [(n, c)]))
    (hn : NodeAt B w' c e) (hc : w.heap.size ≤ c) (hr : ∀ b, e.bv.ownBlock = some b → w.heap.size ≤ b) (hmb : e.dir = true → w.heap.size ≤ e.mb) : CM B w' md (L ++ [(n, c)]) (updC C c e) := by
  obtain ⟨es0, k0, hmd, _⟩ := h.made
  have hmdlt := lt_of_heap hmd
  have neq : ∀ {x y}, C x = some y → x ≠ c := fun {x y} hx e => by
    have := (h.lt hx).1
    omega
  have cases : ∀ {x y}, updC C c e x = some y → (x = c ∧ y = e) ∨ (x ≠ c ∧ C x = some y) := fun {x y} hx => by
    by_cases e1 : x = c
    · rw [e1, updC_same] at hx
      exact .inl ⟨e1, (Option.some.inj hx).symm⟩
    · rw [updC_other C e e1] at hx
      exact .inr ⟨e1, hx⟩
  refine ⟨hmade, h.low, fun x y hx => ?_, fun x y x' y' hx hx' hd hd' hm => ?_, fun x y x' y' b hx hx' hb hb' => ?_⟩
  · rcases cases hx with ⟨rfl, rfl⟩ | ⟨_, hx⟩
    · exact ⟨hn, Nat.le_trans hB hc, fun hd => ⟨Nat.le_trans hB (hmb hd), fun e => by have := hmb hd; omega⟩⟩
    · obtain ⟨h1, h2, h3⟩ := h.node x y hx
      refine ⟨⟨(k.block x (lt_of_heap h1.cells) (fun e => ?_)).trans h1.cells, ownsRow_kept h1.row k (fun b hb e => ?_), fun hd => (h1.map hd).kept k (h3 hd).2, h1.file⟩, h2, h3⟩
      · rw [e] at h1
        exact cells_ne_map h1.cells hmd rfl
      · obtain ⟨cur, hcur⟩ := owns_heap h1.row hb
        exact cells_ne_map hcur hmd e
  · rcases cases hx with ⟨e1, e2⟩ | ⟨_, hx⟩
    · rcases cases hx' with ⟨e3, _⟩ | ⟨_, hx'⟩
      · rw [e1, e3]
      · have := (h.lt hx').2.2 hd'
        subst e2
        have := hmb hd
        omega
    · rcases cases hx' with ⟨_, e4⟩ | ⟨_, hx'⟩
      · have := (h.lt hx).2.2 hd
        subst e4
        have := hmb hd'
        omega
      · exact h.maps x y x' y' hx hx' hd hd' hm
  · rcases cases hx with ⟨e1, e2⟩ | ⟨_, hx⟩
    · rcases cases hx' with ⟨e3, _⟩ | ⟨_, hx'⟩
      · rw [e1, e3]
      · have := (h.lt hx').2.1 b hb'
        subst e2
        have := hr b hb
        omega
    · rcases cases hx' with ⟨_, e4⟩ | ⟨_, hx'⟩
      · have := (h.lt hx).2.1 b hb
        subst e4
        have := hr b hb'
        omega
      · exact h.rows x y x' y' b hx hx' hb hb'
/-- One more name in a directory's copy. -/
theorem CM.name {B : Nat} {w w' : World} {md : Nat} {L : List (Nat × Nat)} {C : Nat → Option Nd} {c : Nat} {e : Nd} {ns : List (ByteArray × Nat)} (h : CM B w md L C) (hc : C c = some e) (hd : e.dir = true) (k : Kept (fun b => b = e.mb) w w') (hm : MapAt w' e.mb ns) : CM B w' md L (updC C c { e with names := ns }) := by
  obtain ⟨hn, hcB, hmB⟩ := h.node c e hc
  obtain ⟨es0, k0, hmo, _⟩ := hn.map hd
  have cases : ∀ {x y}, updC C c { e with names := ns } x = some y → ∃ y0, C x = some y0 ∧ y.dir = y0.dir ∧ y.mb = y0.mb ∧ y.bv = y0.bv ∧ ((x = c ∧ y = { e with names := ns } ∧ y0 = e) ∨ (x ≠ c ∧ y = y0)) := fun {x y} hx => by
    by_cases e1 : x = c
    · rw [e1, updC_same] at hx
      have hx := (Option.some.inj hx).symm
      exact ⟨e, by rw [e1]; exact hc, by rw [hx], by rw [hx], by rw [hx], .inl ⟨e1, hx, rfl⟩⟩
    · rw [updC_other C _ e1] at hx
      exact ⟨y, hx, rfl, rfl, rfl, .inr ⟨e1, rfl⟩⟩
  refine ⟨h.made.kept k (fun e1 => (hmB hd).2 e1.symm), h.low, fun x y hx => ?_, fun x y x' y' hx hx' g1 g2 g3 => ?_, fun x y x' y' b hx hx' g1 g2 => ?_⟩
  · obtain ⟨y0, hx0, q1, q2, q3, hcase⟩ := cases hx
    obtain ⟨h1, h2, h3⟩ := h.node x y0 hx0
    have hcell : w'.heap[x]? = w.heap[x]? := k.block x (lt_of_heap h1.cells) (fun e1 => by rw [e1] at h1; exact cells_ne_map h1.cells hmo rfl)
    have hrow : w'.ownsRow B 5 1 y0.bv y0.data.length (u8s y0.data) := ownsRow_kept h1.row k (fun b hb e1 => by
      obtain ⟨cur, hcur⟩ := owns_heap h1.row hb
      exact cells_ne_map hcur hmo e1)
    rcases hcase with ⟨rfl, rfl, rfl⟩ | ⟨e1, rfl⟩
    · exact ⟨⟨hcell.trans h1.cells, hrow, fun _ => hm, fun hf => by rw [show ({ y0 with names := ns } : Nd).dir = y0.dir from rfl, hd] at hf; cases hf⟩, h2, h3⟩
    · refine ⟨⟨hcell.trans h1.cells, hrow, fun hd' => (h1.map hd').kept k (fun e2 => e1 (h.maps x y c e hx0 hc hd' hd e2)), h1.file⟩, h2, h3⟩
  · obtain ⟨y0, hx0, q1, q2, q3, _⟩ := cases hx
    obtain ⟨y1, hx1, r1, r2, r3, _⟩ := cases hx'
    exact h.maps x y0 x' y1 hx0 hx1 (q1 ▸ g1) (r1 ▸ g2) (by rw [← q2, ← r2]; exact g3)
  · obtain ⟨y0, hx0, q1, q2, q3, _⟩ := cases hx
    obtain ⟨y1, hx1, r1, r2, r3, _⟩ := cases hx'
    exact h.rows x y0 x' y1 b hx0 hx1 (by rw [← q3]; exact g1) (by rw [← r3]; exact g2)
/-- The tree of the copies in memory. -/
theorem CM.rep {B : Nat} {w : World} {md : Nat} {T : Tr} {L : List (Nat × Nat)} {C : Nat → Option Nd} (h : CM B w md L C) (hC : Cp T L C (fun _ => False)) (hT : TW T) {r tb : Nat} (hr : lkC L T.root = some r) (hB : B ≤ tb)
    (htb : w.heap[tb]? = some (.cells #[ptrV (some r), .int .i64 T.clock, .int .i64 T.count] 133 (0, 0))) : Rep B w (cTr T tb r C) := by
  have hw := hC.tw hT hr tb
  refine ⟨?_, htb, fun n d hn => (h.node n d hn).1, h.maps, h.rows, hw.root, hw.kids⟩
  rintro b (rfl | ⟨d, hd⟩ | ⟨n, d, hd, ⟨hdir, rfl⟩ | hv⟩)
  · exact hB
  · exact (h.node b d hd).2.1
  · exact ((h.node n d hd).2.2 hdir).1
  · exact ((h.node n d hd).1.row.lt b hv).1
end Go.Proofs.YtjhojohjegkinaaGreatDoor
