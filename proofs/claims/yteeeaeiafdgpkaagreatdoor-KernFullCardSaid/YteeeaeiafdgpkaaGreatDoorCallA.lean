/-
 (*Tree).Mkdir: its contracts.
 What a call leaves of the program's tree that turns nodes and maps and makes none (Link, Remove).
 The program's Remove: its refusals.
 The program's tree with a name less.
 The program's Link: its refusals.
-/
import Derived.Test.YteeeaeiafdgpkaaGreatDoorPutA
import Derived.Lib.Hide
import Derived.WideLaws
import Derived.Deep.DeepCutAuto
import Derived.Test.YteeeaeiafdgpkaaGreatDoorNewA
namespace Go.Proofs.YteeeaeiafdgpkaaGreatDoor
open Go Go.RowKit
open Go.Lib (hid)
section
def Tr.newNode (T : Tr) (i : Nat) (di : Nd) (nm : ByteArray) (k : Nat) (dk : Nd) : Tr :=
 ((T.tick 1).set i { di with names := di.names ++ [(nm, k)], tick := T.clock + 1 }).set k dk
section
variable {T : Tr} {i : Nat} {di : Nd} {nm : ByteArray} {k : Nat} {dk : Nd}
end
def TErr (E : Nat → Addr) (w : World) (c : Nat) (e : Ending) (w' : World) : Prop :=
 ∃ a, e = .returned (zcb a) ∧ zbu E w.heap.size w' a c ∧ Below w.heap.size w w'
end
section
theorem Rep.change {B : Nat} {w w' : World} {T T' : Tr} {F : Nat → Prop} (h : Rep B w T) (k : Kept F w w')
  (hF : ∀ b, F b → b = T.tb ∨ (∃ d, T.nd b = some d) ∨ ∃ n d, T.nd n = some d ∧ d.dir = true ∧ d.mb = b)
  (htb : T'.tb = T.tb) (htree : w'.heap[T.tb]? = some (.cells #[ptrV (some T'.root), .int .i64 T'.clock, .int .i64 T'.count] 115 (0, 0)))
  (hnode : ∀ n d', T'.nd n = some d' → (T.nd n = some d' ∧ ¬ F n ∧ (d'.dir = true → ¬ F d'.mb)) ∨
   (w'.heap[n]? = some (.cells #[.bool d'.dir, d'.bv, mapV d', .int .i64 d'.links, .int .i64 d'.tick] 107 (0, 0)) ∧ (d'.dir = true → zcl w' d'.mb d'.names) ∧ (d'.dir = false → d'.names = []) ∧
    ∃ d, T.nd n = some d ∧ d.dir = d'.dir ∧ d.bv = d'.bv ∧ d.data = d'.data ∧ d.mb = d'.mb))
  (hroot : ∃ d, T'.nd T'.root = some d ∧ d.dir = true) (hkids : ∀ n d s k, T'.nd n = some d → (s, k) ∈ d.names → ∃ d', T'.nd k = some d') :
  Rep B w' T' ∧ ∀ x, T'.foot x → T.foot x := by
 have row_free : ∀ n d b, T.nd n = some d → d.bv.ownBlock = some b → ¬ F b := fun n d b hn hb hf => by
  obtain ⟨c, hc⟩ := (h.node n d hn).row_block hb
  rcases hF b hf with rfl | ⟨d2, hd2⟩ | ⟨m, d2, hd2, h1, rfl⟩
  ·exact zac hc h.tree (by decide) rfl
  ·exact zac hc (h.node _ _ hd2).cells (by decide) rfl
  ·obtain ⟨es, ck, h3, _⟩ := (h.node _ _ hd2).map h1
   exact zam hc h3 rfl
 have old : ∀ n d', T'.nd n = some d' → ∃ d, T.nd n = some d ∧ d.dir = d'.dir ∧ d.bv = d'.bv ∧ d.data = d'.data ∧ d.mb = d'.mb := fun n d' hn => by
  rcases hnode n d' hn with ⟨h1, _⟩ | ⟨_, _, _, h1⟩
  ·exact ⟨d', h1, rfl, rfl, rfl, rfl⟩
  ·exact h1
 have hfoot : ∀ x, T'.foot x → T.foot x := by
  rintro x (rfl | ⟨d, hd⟩ | ⟨n, d, hd, hx⟩)
  ·exact .inl htb
  ·obtain ⟨d2, h2, _⟩ := old x d hd
   exact .inr (.inl ⟨d2, h2⟩)
  ·obtain ⟨d2, h2, e1, e2, e3, e4⟩ := old n d hd
   rw [← e1, ← e2, ← e4] at hx
   exact .inr (.inr ⟨n, d2, h2, hx⟩)
 refine ⟨⟨fun b hb => h.low b (hfoot b hb), by rw [htb]; exact htree, ?_, ?_, ?_, hroot, hkids⟩, hfoot⟩
 ·intro n d' hn
  rcases hnode n d' hn with ⟨h1, h2, h3⟩ | ⟨h1, h2, h3, d, h4, e1, e2, e3, e4⟩
  ·exact (h.node n d' h1).kept k h2 h3 (row_free n d' · h1)
  ·have h5 := zai (h.node n d h4).row k (row_free n d · h4)
   rw [e2, e3] at h5
   exact ⟨h1, h5, h2, h3⟩
 ·intro n d n' d' hn hn' hd hd' he
  obtain ⟨x, hx, e1, _, _, e4⟩ := old n d hn
  obtain ⟨y, hy, q1, _, _, q4⟩ := old n' d' hn'
  exact h.maps n x n' y hx hy (e1.trans hd) (q1.trans hd') (e4.trans (he.trans q4.symm))
 ·intro n d n' d' b hn hn' hb hb'
  obtain ⟨x, hx, _, e2, _, _⟩ := old n d hn
  obtain ⟨y, hy, _, q2, _, _⟩ := old n' d' hn'
  exact h.rows n x n' y b hx hy (by rw [e2]; exact hb) (by rw [q2]; exact hb')
theorem map_erase {α β : Type} (f : α → β) : ∀ (l : List α) (j : Nat), (l.eraseIdx j).map f = (l.map f).eraseIdx j
 | [], _ => by simp
 | _ :: _, 0 => by simp
 | a :: l, j + 1 => by rw [List.eraseIdx_cons_succ, List.map_cons, List.map_cons, List.eraseIdx_cons_succ, map_erase f l j]
theorem erase_filter : ∀ (names : List (ByteArray × Nat)) (s : ByteArray), (names.map (·.1)).Nodup → ∀ j, names.findIdx? (fun p => s == p.1) = some j → names.eraseIdx j = names.filter (fun p => !(s == p.1))
 | [], s, _, j, h => by simp at h
 | p :: l, s, hn, j, h => by
  rw [List.map_cons, List.nodup_cons] at hn
  rw [List.findIdx?_cons] at h
  by_cases hs : (s == p.1) = true
  ·rw [if_pos hs] at h
   cases h
   rw [List.eraseIdx_zero, List.tail_cons, List.filter_cons_of_neg (by simp [hs])]
   refine (List.filter_eq_self.2 fun q hq => ?_).symm
   have e : s = p.1 := (MapKept.bytes_beq s p.1).1 hs
   have hne : ¬ (s == q.1) = true := fun h2 => by
    have e2 : s = q.1 := (MapKept.bytes_beq s q.1).1 h2
    exact hn.1 (List.mem_map.2 ⟨q, hq, by rw [← e2, e]⟩)
   simpa using hne
  ·rw [if_neg hs] at h
   cases hf : l.findIdx? (fun p => s == p.1) with
   | none => rw [hf] at h; cases h
   | some i =>
    rw [hf] at h
    simp only [Option.map_some, Option.some.injEq] at h
    subst h
    rw [List.eraseIdx_cons_succ, erase_filter l s hn.2 i hf, List.filter_cons_of_pos (by simpa using hs)]
theorem zcl.nodup {w : World} {mb : Nat} {names : List (ByteArray × Nat)} (h : zcl w mb names) : (names.map (·.1)).Nodup := by
 obtain ⟨es, clock, hb, he, hsd⟩ := h
 have h1 : es.toList.map (·.key) = names.map (fun p => Value.string p.1) := by
  have := congrArg (List.map Prod.fst) he
  simpa [List.map_map, Function.comp_def] using this
 have h2 := hsd.2.2
 rw [h1] at h2
 have h3 : names.map (fun p => Value.string p.1) = (names.map (·.1)).map Value.string := by simp [List.map_map, Function.comp_def]
 rw [h3] at h2
 exact List.Pairwise.of_map Value.string (fun a b hab e => hab (by rw [e])) h2
theorem look_some_idx {names : List (ByteArray × Nat)} {s : ByteArray} {k : Nat} (h : look names s = some k) : ∃ j, names.findIdx? (fun p => s == p.1) = some j := by
 rw [look_idx] at h
 cases hf : names.findIdx? (fun p => s == p.1) with
 | none => rw [hf] at h; cases h
 | some j => exact ⟨j, rfl⟩
theorem zc6 {w : World} {mb : Nat} {names : List (ByteArray × Nat)} (h : zcl w mb names) (s : ByteArray) {k : Nat} (hk : look names s = some k) :
  ∃ w', (∀ ty : TypeId, (Builtin.delete_ #[105, 9] ty #[.map (some mb), .string s]).run Tryz.prog w = .ok (.tuple #[]) w') ∧ zcl w' mb (names.filter fun p => !(s == p.1)) ∧ Kept (fun b => b = mb) w w' := by
 have hnd := h.nodup
 obtain ⟨es, clock, hb, he, hsd⟩ := h
 have hm : Tryz.prog.underlying 105 = some (.map 9 103) := Tryz.underlying105
 have hs : Tryz.prog.underlying 9 = some .string := Tryz.underlying9
 have hf := zc8 s es.toList names 0 he
 obtain ⟨j, hj⟩ := look_some_idx hk
 rw [hj] at hf
 have hg : (getObj mb).run Tryz.prog w = .ok (.map es clock) w := MapKept.run_getObj_map hb
 have hc := zeo hs es.isEmpty 9999 s w
 have hst := MapKept.run_setObj_map (P := Tryz.prog) (Obj.map (es.eraseIdxIfInBounds j) clock) hb
 refine ⟨{ w with heap := w.heap.setIfInBounds mb (Obj.map (es.eraseIdxIfInBounds j) clock) }, fun ty => ?_, ?_, Kept.setHeap w mb _⟩
 ·simp [Builtin.delete_, run_underlying hm, hg, hc, Instr.findKey, run_underlying hs, hf, hst, Result.andThen]
 ·refine ⟨_, _, heap_setHeap (zab hb) _, ?_, MapKept.stamped_erase hsd j⟩
  rw [← erase_filter names s hnd j hj]
  have hl : es.toList.length = names.length := by
   have := congrArg List.length he
   simpa using this
  have hjl : j < es.size := by
   have := (List.findIdx?_eq_some_iff_getElem.1 hj).1
   rw [← Array.length_toList]
   omega
  unfold Array.eraseIdxIfInBounds
  rw [dif_pos hjl, Array.toList_eraseIdx]
  rw [map_erase, he, ← map_erase]
end
section
set_option maxRecDepth 100000 in
set_option maxHeartbeats 1000000 in
theorem remove_err {E : Nat → Addr} {B : Nat} {T : Tr} (p : ByteArray) (w : World) (hE : Ctx E B w) (hR : Rep B w T) (hsz : p.size ≤ 9223372036854775807) (c : Nat) (hf : T.find p = .error c) :
  Calls Tryz.prog 29 #[.pointer (some ⟨T.tb, 0, none⟩), .string p] w fun e w' => TErr E w c e w' := by
 have HF := zbz p w hE hR hsz
 rw [hf] at HF
 have HC : Hid (Calls Tryz.prog 55 #[.pointer (some ⟨T.tb, 0, none⟩), .string p] w fun e w' => zbn E w (.error c) e w') := HF
 clear HF hE hR hf
 go_enter Tryz.func29, Tryz.ntmps29
 go_wp2_with fail
 refine HC.out.mono ?_
 rintro e w1 ⟨hb, a, rfl, hfl⟩
 have HB : Hid (Below w.heap.size w w1) := hb
 have HFL : Hid (zbu E w.heap.size w1 a c) := hfl
 clear hb hfl
 simp only [zct, spot0, za0]
 go_wp2_with fail
 go_ret
 exact ⟨a, rfl, HFL.out.below (zad w1 _), zaf HB.out (zad w1 _)⟩
set_option maxRecDepth 100000 in
set_option maxHeartbeats 1000000 in
theorem remove_none {E : Nat → Addr} {B : Nat} {T : Tr} (p : ByteArray) (w : World) (hE : Ctx E B w) (hR : Rep B w T) (hsz : p.size ≤ 9223372036854775807) (s : Spot) (hf : T.find p = .ok s) (hk : s.n = none) :
  Calls Tryz.prog 29 #[.pointer (some ⟨T.tb, 0, none⟩), .string p] w fun e w' => TErr E w 16 e w' := by
 have HF := zbz p w hE hR hsz
 rw [hf] at HF
 have HC : Hid (Calls Tryz.prog 55 #[.pointer (some ⟨T.tb, 0, none⟩), .string p] w fun e w' => zbn E w (.ok s) e w') := HF
 have HE := hid hE
 clear HF hE hR hf
 obtain ⟨inn, nm, nn⟩ := s
 have hk' : nn = none := hk
 subst hk'
 clear hk
 go_enter Tryz.func29, Tryz.ntmps29
 go_wp2_with fail
 refine HC.out.mono ?_
 rintro e w1 ⟨hb, rfl⟩
 have HB : Hid (Below w.heap.size w w1) := hb
 clear hb
 rcases inn with _ | j <;> simp only [zct, zau, za0]
 all_goals
  go_wp2_with fail
  have HB1 := hid (fun o => zaf HB.out (zad w1 o))
  refine (zbl _ (HE.out.env.below (HB1.out _)) 16 (by unfold Used; omega)).mono ?_
  rintro e w2 ⟨a, rfl, hfl, hb2⟩
  have HFL := hid (hfl.mono (HB1.out _).size)
  have HB2 := hid (zaf (HB1.out _) hb2)
  clear hfl hb2
  go_wp2_with fail
  go_ret
  exact ⟨a, rfl, HFL.out, HB2.out⟩
set_option maxRecDepth 100000 in
set_option maxHeartbeats 1000000 in
theorem remove_root {E : Nat → Addr} {B : Nat} {T : Tr} (p : ByteArray) (w : World) (hE : Ctx E B w) (hR : Rep B w T) (hsz : p.size ≤ 9223372036854775807) (s : Spot) (hf : T.find p = .ok s) (hin : s.inn = none) (k : Nat) (hk : s.n = some k) :
  Calls Tryz.prog 29 #[.pointer (some ⟨T.tb, 0, none⟩), .string p] w fun e w' => TErr E w 17 e w' := by
 have HF := zbz p w hE hR hsz
 rw [hf] at HF
 have HC : Hid (Calls Tryz.prog 55 #[.pointer (some ⟨T.tb, 0, none⟩), .string p] w fun e w' => zbn E w (.ok s) e w') := HF
 have HE := hid hE
 clear HF hE hR hf
 obtain ⟨inn, nm, nn⟩ := s
 have hk' : nn = some k := hk
 have hi' : inn = none := hin
 subst hk' hi'
 clear hk hin
 go_enter Tryz.func29, Tryz.ntmps29
 go_wp2_with fail
 refine HC.out.mono ?_
 rintro e w1 ⟨hb, rfl⟩
 have HB : Hid (Below w.heap.size w w1) := hb
 clear hb
 simp only [zct, zau, za0]
 focus
  go_wp2_with fail
  have HB1 := hid (fun o => zaf HB.out (zad w1 o))
  refine (zbl _ (HE.out.env.below (HB1.out _)) 17 (by unfold Used; omega)).mono ?_
  rintro e w2 ⟨a, rfl, hfl, hb2⟩
  have HFL := hid (hfl.mono (HB1.out _).size)
  have HB2 := hid (zaf (HB1.out _) hb2)
  clear hfl hb2
  go_wp2_with fail
  go_ret
  exact ⟨a, rfl, HFL.out, HB2.out⟩
set_option maxRecDepth 100000 in
set_option maxHeartbeats 1000000 in
theorem remove_full {E : Nat → Addr} {B : Nat} {T : Tr} (p : ByteArray) (w : World) (hE : Ctx E B w) (hR : Rep B w T) (hsz : p.size ≤ 9223372036854775807) (s : Spot) (hf : T.find p = .ok s) (i : Nat) (hin : s.inn = some i) (k : Nat) (hk : s.n = some k)
  (dk : Nd) (hdk : T.nd k = some dk) (hdir : dk.dir = true) (hne : dk.names ≠ []) :
  Calls Tryz.prog 29 #[.pointer (some ⟨T.tb, 0, none⟩), .string p] w fun e w' => TErr E w 17 e w' := by
 have HF := zbz p w hE hR hsz
 rw [hf] at HF
 have HC : Hid (Calls Tryz.prog 55 #[.pointer (some ⟨T.tb, 0, none⟩), .string p] w fun e w' => zbn E w (.ok s) e w') := HF
 have HE := hid hE
 have HR := hid hR
 have HDK := hid hdk
 have HDIR := hid hdir
 have HNE := hid hne
 clear HF hE hR hf hdk hdir hne
 obtain ⟨inn, nm, nn⟩ := s
 have hk' : nn = some k := hk
 have hi' : inn = some i := hin
 subst hk' hi'
 clear hk hin
 go_enter Tryz.func29, Tryz.ntmps29
 go_wp2_with fail
 refine HC.out.mono ?_
 rintro e w1 ⟨hb, rfl⟩
 have HB1 : Hid (Below w.heap.size w w1) := hb
 clear hb
 simp only [zct, zau]
 obtain ⟨w3, hw3⟩ : ∃ w3, w3 = w1.alloc (.cells #[.pointer (some ⟨i, 0, none⟩), .string nm, .pointer (some ⟨k, 0, none⟩)] 142) := ⟨_, rfl⟩
 have HW3 := hid hw3
 have HB3 : Hid (Below w.heap.size w w3) := by rw [hw3]; exact HB1.out.alloc HB1.out.size _
 have HS3 : Hid (w3.heap[w1.heap.size]? = some (.cells #[.pointer (some ⟨i, 0, none⟩), .string nm, .pointer (some ⟨k, 0, none⟩)] 142 (0, 0))) := by rw [hw3]; exact heap_alloc_new w1 _
 clear hw3
 go_upto_region 2 with fail
 rw [← HW3.out]
 clear HW3 HB1
 generalize w1.heap.size = sb at *
 have HRP := hid (HR.out.below HB3.out)
 have HNK := hid (HRP.out.node k dk HDK.out)
 have s0 := zaa (o := 0) HS3.out rfl
 have s2 := zaa (o := 2) HS3.out rfl
 have k0 : w3.cell? ⟨k, 0, none⟩ = some (.bool true) := by
  have h1 : w3.cell? ⟨k, 0, none⟩ = some (.bool dk.dir) := zaa HNK.out.cells rfl
  rw [h1, HDIR.out]
 have k2 : w3.cell? ⟨k, 2, none⟩ = some (.map (some dk.mb)) := by
  have h1 : w3.cell? ⟨k, 2, none⟩ = some (mapV dk) := zaa HNK.out.cells rfl
  rw [h1]; simp [mapV, HDIR.out]
 obtain ⟨es, ck, hes, hkv, _⟩ := HNK.out.map HDIR.out
 have hpos : (0 : Int) < es.size := by
  have h1 := congrArg List.length hkv
  simp only [List.length_map, Array.length_toList] at h1
  have h2 := List.length_pos_iff.2 HNE.out
  omega
 clear hkv
 have hun : Tryz.prog.underlying 105 = some (.map (Tryz.prog.mapKeyOf 105) (Tryz.prog.mapElemOf 105)) := by kernel_rfl
 have hlen := run_len_map (P := Tryz.prog) (w := w3) 105 3 dk.mb es ck hun hes
 go_wp2_with fail
 refine (zbl _ (HE.out.env.below HB3.out) 17 (by unfold Used; omega)).mono ?_
 rintro e w4 ⟨a, rfl, hfl, hb4⟩
 have HFL := hid (hfl.mono HB3.out.size)
 have HB4 := hid (zaf HB3.out hb4)
 clear hfl hb4
 go_wp2_with fail
 go_ret
 exact ⟨a, rfl, HFL.out, HB4.out⟩
end
section
def Tr.pruned (T : Tr) (i : Nat) (di : Nd) (nm : ByteArray) (k : Nat) (dk : Nd) : Tr :=
 { T with clock := T.clock + 1, count := T.count - (if dk.dir = true ∨ dk.links = 1 then 1 else 0), nd := fun x => if x = k then (if dk.dir then none else some { dk with links := dk.links - 1 }) else if x = i then some { di with names := di.names.filter (fun p => !(nm == p.1)), tick := T.clock + 1 } else T.nd x }
theorem pruned_rep {B : Nat} {w w' : World} {T : Tr} (hR : Rep B w T) {i k : Nat} {di dk : Nd} {nm : ByteArray} (hdi : T.nd i = some di) (hdir : di.dir = true) (hdk : T.nd k = some dk) (hik : i ≠ k) (hroot : T.root ≠ k) (hbare : dk.names = [])
  (hone : dk.dir = true → ∀ n d s, T.nd n = some d → (s, k) ∈ d.names → n = i ∧ s = nm)
  (hK : Kept (fun x => x = T.tb ∨ x = i ∨ x = di.mb ∨ x = k) w w')
  (hT : w'.heap[T.tb]? = some (.cells #[ptrV (some T.root), .int .i64 (T.clock + 1), .int .i64 (T.count - (if dk.dir = true ∨ dk.links = 1 then 1 else 0))] 115 (0, 0)))
  (hI : w'.heap[i]? = some (.cells #[.bool di.dir, di.bv, mapV di, .int .i64 di.links, .int .i64 (T.clock + 1)] 107 (0, 0)))
  (hKn : dk.dir = false → w'.heap[k]? = some (.cells #[.bool dk.dir, dk.bv, mapV dk, .int .i64 (dk.links - 1), .int .i64 dk.tick] 107 (0, 0)))
  (hM : zcl w' di.mb (di.names.filter fun p => !(nm == p.1))) : Rep B w' (T.pruned i di nm k dk) ∧ ∀ x, (T.pruned i di nm k dk).foot x → T.foot x := by
 have hnd : ∀ x, (T.pruned i di nm k dk).nd x = if x = k then (if dk.dir then none else some { dk with links := dk.links - 1 }) else if x = i then some { di with names := di.names.filter (fun p => !(nm == p.1)), tick := T.clock + 1 } else T.nd x := fun x => rfl
 have there : ∀ q, (∃ d', T.nd q = some d') → (q = k → dk.dir = false) → ∃ d', (T.pruned i di nm k dk).nd q = some d' := by
  rintro q ⟨d', hd'⟩ hq
  rw [hnd]
  by_cases h1 : q = k
  ·rw [if_pos h1, hq h1]; exact ⟨_, rfl⟩
  ·by_cases h2 : q = i
   ·exact ⟨_, by rw [if_neg h1, if_pos h2]⟩
   ·exact ⟨d', by rw [if_neg h1, if_neg h2]; exact hd'⟩
 refine hR.change hK ?_ rfl hT ?_ ?_ ?_
 ·rintro b (rfl | rfl | rfl | rfl)
  ·exact .inl rfl
  ·exact .inr (.inl ⟨di, hdi⟩)
  ·exact .inr (.inr ⟨i, di, hdi, hdir, rfl⟩)
  ·exact .inr (.inl ⟨dk, hdk⟩)
 ·intro n d' hn
  rw [hnd] at hn
  by_cases h1 : n = k
  ·rw [if_pos h1] at hn
   cases hfl : dk.dir with
   | true => rw [hfl] at hn; cases hn
   | false =>
    rw [hfl] at hn
    cases hn
    subst h1
    refine .inr ⟨?_, fun h => ?_, fun _ => hbare, dk, hdk, hfl, rfl, rfl, rfl⟩
    ·have h2 := hKn hfl
     rw [hfl] at h2
     have e : mapV { dir := false, bv := dk.bv, data := dk.data, names := dk.names, mb := dk.mb, links := dk.links - 1, tick := dk.tick } = mapV dk := by unfold mapV; rw [hfl]
     show _ = some (Obj.cells #[.bool false, dk.bv, mapV { dir := false, bv := dk.bv, data := dk.data, names := dk.names, mb := dk.mb, links := dk.links - 1, tick := dk.tick }, .int .i64 (dk.links - 1), .int .i64 dk.tick] 107 (0, 0))
     rw [e]
     exact h2
    ·cases h
  ·rw [if_neg h1] at hn
   by_cases h2 : n = i
   ·rw [if_pos h2] at hn
    cases hn
    subst h2
    exact .inr ⟨hI, fun _ => hM, (fun h => by have h : di.dir = false := h; rw [hdir] at h; cases h), di, hdi, rfl, rfl, rfl, rfl⟩
   ·rw [if_neg h2] at hn
    refine .inl ⟨hn, ?_, fun hd => ?_⟩
    ·obtain ⟨es, ck, hes, _⟩ := (hR.node i di hdi).map hdir
     rintro (h | h | h | h)
     ·exact zac (hR.node n d' hn).cells hR.tree (by decide) h
     ·exact h2 h
     ·exact zam (hR.node n d' hn).cells hes h
     ·exact h1 h
    ·obtain ⟨es, ck, hes, _⟩ := (hR.node n d' hn).map hd
     rintro (h | h | h | h)
     ·exact zam hR.tree hes h.symm
     ·exact zam (hR.node i di hdi).cells hes h.symm
     ·exact h2 (hR.maps n d' i di hn hdi hd hdir h)
     ·exact zam (hR.node k dk hdk).cells hes h.symm
 ·obtain ⟨d, hd, hdd⟩ := hR.root
  show ∃ d, (T.pruned i di nm k dk).nd T.root = some d ∧ d.dir = true
  rw [hnd, if_neg hroot]
  by_cases h2 : T.root = i
  ·rw [if_pos h2]; exact ⟨_, rfl, hdir⟩
  ·rw [if_neg h2]; exact ⟨d, hd, hdd⟩
 ·intro n d s q hn hq
  have key : ∀ m e, T.nd m = some e → (s, q) ∈ e.names → (m = i → s ≠ nm) → ∃ d', (T.pruned i di nm k dk).nd q = some d' := fun m e hm hq hs => by
   refine there q (hR.kids m e s q hm hq) (fun e1 => ?_)
   cases hfl : dk.dir with
   | false => rfl
   | true =>
    subst e1
    obtain ⟨h1, h2⟩ := hone hfl m e s hm hq
    exact absurd h2 (hs h1)
  rw [hnd] at hn
  by_cases h1 : n = k
  ·rw [if_pos h1] at hn
   cases hfl : dk.dir with
   | true => rw [hfl] at hn; cases hn
   | false =>
    rw [hfl] at hn
    cases hn
    rw [hbare] at hq
    cases hq
  ·rw [if_neg h1] at hn
   by_cases h2 : n = i
   ·rw [if_pos h2] at hn
    cases hn
    obtain ⟨h3, h4⟩ := List.mem_filter.1 hq
    refine key i di hdi h3 (fun _ e => ?_)
    subst e
    simp [(MapKept.bytes_beq s s).2 rfl] at h4
   ·rw [if_neg h2] at hn
    exact key n d hn hq (fun e => absurd e h2)
def zcy (B : Nat) (w : World) (T : Tr) (i : Nat) (di : Nd) (nm : ByteArray) (k : Nat) (dk : Nd) (e : Ending) (w' : World) : Prop :=
 e = .returned .nilIface ∧ Rep B w' (T.pruned i di nm k dk) ∧ Kept T.foot w w' ∧ ∀ x, (T.pruned i di nm k dk).foot x → T.foot x
set_option maxRecDepth 100000 in
set_option maxHeartbeats 2000000 in
theorem remove_dir {E : Nat → Addr} {B : Nat} {T : Tr} (p : ByteArray) (w : World) (hE : Ctx E B w) (hR : Rep B w T) (hsz : p.size ≤ 9223372036854775807) (hck0 : 0 ≤ T.clock) (hck : T.clock ≤ 1152921504606846976) (s : Spot) (hf : T.find p = .ok s)
  (i k : Nat) (hin : s.inn = some i) (hk : s.n = some k) (di dk : Nd) (hdi : T.nd i = some di) (hdir : di.dir = true) (hdk : T.nd k = some dk) (hkd : dk.dir = true) (hbare : dk.names = []) (hlk : look di.names s.name = some k) (hl0 : 0 ≤ dk.links) (hl1 : dk.links ≤ 1152921504606846976) (hn0 : 0 ≤ T.count) (hn1 : T.count ≤ 1152921504606846976) (hik : i ≠ k) (hroot : T.root ≠ k) (hone : dk.dir = true → ∀ n d s', T.nd n = some d → (s', k) ∈ d.names → n = i ∧ s' = s.name) :
  Calls Tryz.prog 29 #[.pointer (some ⟨T.tb, 0, none⟩), .string p] w fun e w' => zcy B w T i di s.name k dk e w' := by
 have HF := zbz p w hE hR hsz
 rw [hf] at HF
 have HC : Hid (Calls Tryz.prog 55 #[.pointer (some ⟨T.tb, 0, none⟩), .string p] w fun e w' => zbn E w (.ok s) e w') := HF
 have HR := hid hR
 have HDI := hid hdi
 have HDIR := hid hdir
 have HDK := hid hdk
 have HKD := hid hkd
 have HBR := hid hbare
 obtain ⟨inn, nm, nn⟩ := s
 have hk' : nn = some k := hk
 have hi' : inn = some i := hin
 subst hk' hi'
 have HLK : Hid (look di.names nm = some k) := hlk
 have HONE : Hid (dk.dir = true → ∀ n d s', T.nd n = some d → (s', k) ∈ d.names → n = i ∧ s' = nm) := hone
 have HIK := hid hik
 have HRT := hid hroot
 clear HF hE hR hf hk hin hdi hdir hdk hkd hbare hlk hone hik hroot
 go_enter Tryz.func29, Tryz.ntmps29
 go_wp2_with fail
 refine HC.out.mono ?_
 rintro e w1 ⟨hb, rfl⟩
 have HB1 : Hid (Below w.heap.size w w1) := hb
 clear hb
 simp only [zct, zau]
 obtain ⟨w3, hw3⟩ : ∃ w3, w3 = w1.alloc (.cells #[.pointer (some ⟨i, 0, none⟩), .string nm, .pointer (some ⟨k, 0, none⟩)] 142) := ⟨_, rfl⟩
 have HW3 := hid hw3
 have HB3 : Hid (Below w.heap.size w w3) := by rw [hw3]; exact HB1.out.alloc HB1.out.size _
 have HS3 : Hid (w3.heap[w1.heap.size]? = some (.cells #[.pointer (some ⟨i, 0, none⟩), .string nm, .pointer (some ⟨k, 0, none⟩)] 142 (0, 0))) := by rw [hw3]; exact heap_alloc_new w1 _
 clear hw3
 go_upto_region 2 with fail
 rw [← HW3.out]
 clear HW3 HB1
 generalize w1.heap.size = sb at *
 have HRP := hid (HR.out.below HB3.out)
 have HNK := hid (HRP.out.node k dk HDK.out)
 have HNI := hid (HRP.out.node i di HDI.out)
 have s0 := zaa (o := 0) HS3.out rfl
 have s1 := zaa (o := 1) HS3.out rfl
 have s2 := zaa (o := 2) HS3.out rfl
 have k0 : w3.cell? ⟨k, 0, none⟩ = some (.bool true) := by
  have h1 : w3.cell? ⟨k, 0, none⟩ = some (.bool dk.dir) := zaa HNK.out.cells rfl
  rw [h1, HKD.out]
 have k2 : w3.cell? ⟨k, 2, none⟩ = some (.map (some dk.mb)) := by
  have h1 : w3.cell? ⟨k, 2, none⟩ = some (mapV dk) := zaa HNK.out.cells rfl
  rw [h1]; simp [mapV, HKD.out]
 have i2 : w3.cell? ⟨i, 2, none⟩ = some (.map (some di.mb)) := by
  have h1 : w3.cell? ⟨i, 2, none⟩ = some (mapV di) := zaa HNI.out.cells rfl
  rw [h1]; simp [mapV, HDIR.out]
 obtain ⟨es, ck, hes, hkv, _⟩ := HNK.out.map HKD.out
 have hpos : es.size = 0 := by
  have h1 := congrArg List.length hkv
  rw [HBR.out] at h1
  simpa using h1
 clear hkv
 have hun : Tryz.prog.underlying 105 = some (.map (Tryz.prog.mapKeyOf 105) (Tryz.prog.mapElemOf 105)) := by kernel_rfl
 have hlen := run_len_map (P := Tryz.prog) (w := w3) 105 3 dk.mb es ck hun hes
 rw [hpos] at hlen
 go_upto_region 8 with fail
 have HWM : Hid (zcl w3.drew di.mb di.names) := (HNI.out.map HDIR.out).kept (Kept.of_below (Below.refl _ w3).drew (fun _ => False)) (fun hf => hf)
 obtain ⟨w4, hrun, hm4, hk4⟩ := zc6 HWM.out nm HLK.out
 have HM4 := hid hm4
 have HK4 : Hid (Kept (fun b => b = di.mb) w3 w4) := ⟨hk4.os, hk4.tape, hk4.output, hk4.size, hk4.block⟩
 clear hm4 hk4
 go_region
 clear hrun i2 s1 hlen hun k2
 have HES : Hid (∃ es ck, w3.heap[di.mb]? = some (.map es ck)) := let ⟨es, ck, h, _⟩ := HNI.out.map HDIR.out; ⟨es, ck, h⟩
 have HOLD : Hid (∀ (b : Nat) (c : Array Value) (t : TypeId) (f : Nat × Nat), w3.heap[b]? = some (Obj.cells c t f) → w4.heap[b]? = some (Obj.cells c t f)) := fun b c T f h => by
  obtain ⟨es, ck, hes⟩ := HES.out
  exact (HK4.out.block b (zab h) (zam h hes)).trans h
 have HT4 := hid (HOLD.out _ _ _ _ HRP.out.tree)
 have HI4 := hid (HOLD.out _ _ _ _ HNI.out.cells)
 have HN4 := hid (HOLD.out _ _ _ _ HNK.out.cells)
 have HS4 := hid (HOLD.out _ _ _ _ HS3.out)
 clear s0 s2 k0 hes hpos
 have s2 := zaa (o := 2) HS4.out rfl
 have k3 := zaa (o := 3) HN4.out rfl
 have kf := fun o => zah HN4.out o
 go_upto_region 10 with fail
 clear s2 k3 kf HOLD
 have HN5 : Hid ((w4.setCell ⟨k, 3, none⟩ (.int .i64 (dk.links - 1))).heap[k]? = some (.cells #[.bool dk.dir, dk.bv, mapV dk, .int .i64 (dk.links - 1), .int .i64 dk.tick] 107 (0, 0))) := zaj HN4.out 3 _
 have HT5 : Hid ((w4.setCell ⟨k, 3, none⟩ (.int .i64 (dk.links - 1))).heap[T.tb]? = _) := (zag w4 _ _ (zac HT4.out HN4.out (by decide))).trans HT4.out
 have HI5 : Hid ((w4.setCell ⟨k, 3, none⟩ (.int .i64 (dk.links - 1))).heap[i]? = _) := (zag w4 _ _ HIK.out).trans HI4.out
 have HS5 : Hid ((w4.setCell ⟨k, 3, none⟩ (.int .i64 (dk.links - 1))).heap[sb]? = _) := (zag w4 _ _ (zac HS4.out HN4.out (by decide))).trans HS4.out
 have HK5 : Hid (Kept (fun x => x = T.tb ∨ x = i ∨ x = di.mb ∨ x = k) w (w4.setCell ⟨k, 3, none⟩ (.int .i64 (dk.links - 1)))) := ((Kept.of_below HB3.out _).trans HK4.out (fun b h => .inl (.inr (.inr (.inl h))))).setCell (p := ⟨k, 3, none⟩) (.inl (.inr (.inr (.inr rfl)))) _
 have HM5 : Hid (zcl (w4.setCell ⟨k, 3, none⟩ (.int .i64 (dk.links - 1))) di.mb (di.names.filter fun p => !(nm == p.1))) := HM4.out.kept ((Kept.refl (fun b => b = k) w4).setCell (p := ⟨k, 3, none⟩) (.inl rfl) _) (fun h => by
  obtain ⟨es, ck, h1, _⟩ := HM4.out
  have h : di.mb = k := h
  exact zam HN4.out h1 h.symm)
 generalize w4.setCell ⟨k, 3, none⟩ (.int .i64 (dk.links - 1)) = w5 at *
 clear HT4 HI4 HN4 HS4
 have s2 := zaa (o := 2) HS5.out rfl
 have k0 : w5.cell? ⟨k, 0, none⟩ = some (.bool true) := by
  have h1 : w5.cell? ⟨k, 0, none⟩ = some (.bool dk.dir) := zaa HN5.out rfl
  rw [h1, HKD.out]
 have t2 := zaa (o := 2) HT5.out rfl
 have tf := fun o => zah HT5.out o
 go_upto_region 12 with fail
 have HT6 : Hid ((w5.setCell ⟨T.tb, 2, none⟩ (.int .i64 (T.count - 1))).heap[T.tb]? = some (.cells #[ptrV (some T.root), .int .i64 T.clock, .int .i64 (T.count - 1)] 115 (0, 0))) := zaj HT5.out 2 _
 have HI6 : Hid ((w5.setCell ⟨T.tb, 2, none⟩ (.int .i64 (T.count - 1))).heap[i]? = _) := (zag w5 _ _ (zac HI5.out HT5.out (by decide))).trans HI5.out
 have HS6 : Hid ((w5.setCell ⟨T.tb, 2, none⟩ (.int .i64 (T.count - 1))).heap[sb]? = _) := (zag w5 _ _ (zac HS5.out HT5.out (by decide))).trans HS5.out
 have HK6 : Hid (Kept (fun x => x = T.tb ∨ x = i ∨ x = di.mb ∨ x = k) w (w5.setCell ⟨T.tb, 2, none⟩ (.int .i64 (T.count - 1)))) := HK5.out.setCell (p := ⟨T.tb, 2, none⟩) (.inl (.inl rfl)) _
 have HM6 : Hid (zcl (w5.setCell ⟨T.tb, 2, none⟩ (.int .i64 (T.count - 1))) di.mb (di.names.filter fun p => !(nm == p.1))) := HM5.out.kept ((Kept.refl (fun b => b = T.tb) w5).setCell (p := ⟨T.tb, 2, none⟩) (.inl rfl) _) (fun h => by
  obtain ⟨es, ck, h1, _⟩ := HM5.out
  have h : di.mb = T.tb := h
  exact zam HT5.out h1 h.symm)
 generalize w5.setCell ⟨T.tb, 2, none⟩ (.int .i64 (T.count - 1)) = w6 at *
 clear s2 k0 t2 tf HT5 HI5 HS5
 have s0 := zaa (o := 0) HS6.out rfl
 have HBA := hid (zad w6 (.cells #[.pointer (some ⟨i, 0, none⟩)] 103))
 have HSA := hid (heap_alloc_new w6 (.cells #[.pointer (some ⟨i, 0, none⟩)] 103))
 go_wp2_with fail
 generalize w6.alloc (.cells #[.pointer (some ⟨i, 0, none⟩)] 103) = wA at *
 have HTA := hid (zae HBA.out (zab HT6.out) HT6.out)
 have HIA := hid (zae HBA.out (zab HI6.out) HI6.out)
 refine (tick1 hck0 hck HTA.out HIA.out HSA.out).mono ?_
 intro e w7 hp
 obtain ⟨rfl, hT7, hI7, hK7⟩ := hp
 have HT7 := hid hT7
 have HI7 := hid hI7
 have HK7 := hid hK7
 clear hT7 hI7 hK7
 have HX : Hid (zcy B w T i di nm k dk (.returned .nilIface) w7) := by
  have hKK : Kept (fun x => x = T.tb ∨ x = i ∨ x = di.mb ∨ x = k) w w7 := (HK6.out.then_below HBA.out).trans HK7.out (fun b h => by
   rcases h with h | h
   ·exact .inl (.inl h)
   ·exact .inl (.inr (.inl h)))
  have hM7 : zcl w7 di.mb (di.names.filter fun p => !(nm == p.1)) := (HM6.out.kept (Kept.of_below HBA.out (fun _ => False)) (fun h => h)).kept HK7.out (fun h => by
   obtain ⟨es, ck, h1, _⟩ := HM6.out
   rcases h with h | h
   ·exact zam HT6.out h1 h.symm
   ·exact zam HI6.out h1 h.symm)
  obtain ⟨q1, q2⟩ := pruned_rep HR.out HDI.out HDIR.out HDK.out HIK.out HRT.out HBR.out HONE.out hKK (by rw [if_pos (.inl HKD.out)]; exact HT7.out) HI7.out (fun h => by rw [HKD.out] at h; cases h) hM7
  refine ⟨rfl, q1, hKK.mono ?_, q2⟩
  rintro x (rfl | rfl | rfl | rfl)
  ·exact .inl rfl
  ·exact .inr (.inl ⟨di, HDI.out⟩)
  ·exact .inr (.inr ⟨i, di, HDI.out, .inl ⟨HDIR.out, rfl⟩⟩)
  ·exact .inr (.inl ⟨dk, HDK.out⟩)
 go_wp2_with fail
 go_ret
 exact HX.out
set_option maxRecDepth 100000 in
set_option maxHeartbeats 2000000 in
theorem remove_one {E : Nat → Addr} {B : Nat} {T : Tr} (p : ByteArray) (w : World) (hE : Ctx E B w) (hR : Rep B w T) (hsz : p.size ≤ 9223372036854775807) (hck0 : 0 ≤ T.clock) (hck : T.clock ≤ 1152921504606846976) (s : Spot) (hf : T.find p = .ok s)
  (i k : Nat) (hin : s.inn = some i) (hk : s.n = some k) (di dk : Nd) (hdi : T.nd i = some di) (hdir : di.dir = true) (hdk : T.nd k = some dk) (hkd : dk.dir = false) (hlk : look di.names s.name = some k) (hl : dk.links = 1) (hn0 : 0 ≤ T.count) (hn1 : T.count ≤ 1152921504606846976) (hik : i ≠ k) (hroot : T.root ≠ k) :
  Calls Tryz.prog 29 #[.pointer (some ⟨T.tb, 0, none⟩), .string p] w fun e w' => zcy B w T i di s.name k dk e w' := by
 have HF := zbz p w hE hR hsz
 rw [hf] at HF
 have HC : Hid (Calls Tryz.prog 55 #[.pointer (some ⟨T.tb, 0, none⟩), .string p] w fun e w' => zbn E w (.ok s) e w') := HF
 have HR := hid hR
 have HDI := hid hdi
 have HDIR := hid hdir
 have HDK := hid hdk
 have HLL := hid hl
 have hl0 : 0 ≤ dk.links := by omega
 have hl1 : dk.links ≤ 1152921504606846976 := by omega
 clear hl
 have HKD := hid hkd
 have HBR : Hid (dk.names = []) := (hR.node k dk hdk).file hkd
 obtain ⟨inn, nm, nn⟩ := s
 have hk' : nn = some k := hk
 have hi' : inn = some i := hin
 subst hk' hi'
 have HLK : Hid (look di.names nm = some k) := hlk
 have HIK := hid hik
 have HRT := hid hroot
 clear HF hE hR hf hk hin hdi hdir hdk hkd hlk hik hroot
 go_enter Tryz.func29, Tryz.ntmps29
 go_wp2_with fail
 refine HC.out.mono ?_
 rintro e w1 ⟨hb, rfl⟩
 have HB1 : Hid (Below w.heap.size w w1) := hb
 clear hb
 simp only [zct, zau]
 obtain ⟨w3, hw3⟩ : ∃ w3, w3 = w1.alloc (.cells #[.pointer (some ⟨i, 0, none⟩), .string nm, .pointer (some ⟨k, 0, none⟩)] 142) := ⟨_, rfl⟩
 have HW3 := hid hw3
 have HB3 : Hid (Below w.heap.size w w3) := by rw [hw3]; exact HB1.out.alloc HB1.out.size _
 have HS3 : Hid (w3.heap[w1.heap.size]? = some (.cells #[.pointer (some ⟨i, 0, none⟩), .string nm, .pointer (some ⟨k, 0, none⟩)] 142 (0, 0))) := by rw [hw3]; exact heap_alloc_new w1 _
 clear hw3
 go_upto_region 2 with fail
 rw [← HW3.out]
 clear HW3 HB1
 generalize w1.heap.size = sb at *
 have HRP := hid (HR.out.below HB3.out)
 have HNK := hid (HRP.out.node k dk HDK.out)
 have HNI := hid (HRP.out.node i di HDI.out)
 have s0 := zaa (o := 0) HS3.out rfl
 have s1 := zaa (o := 1) HS3.out rfl
 have s2 := zaa (o := 2) HS3.out rfl
 have k0 : w3.cell? ⟨k, 0, none⟩ = some (.bool false) := by
  have h1 : w3.cell? ⟨k, 0, none⟩ = some (.bool dk.dir) := zaa HNK.out.cells rfl
  rw [h1, HKD.out]
 have i2 : w3.cell? ⟨i, 2, none⟩ = some (.map (some di.mb)) := by
  have h1 : w3.cell? ⟨i, 2, none⟩ = some (mapV di) := zaa HNI.out.cells rfl
  rw [h1]; simp [mapV, HDIR.out]
 go_upto_region 8 with fail
 have HWM : Hid (zcl w3.drew di.mb di.names) := (HNI.out.map HDIR.out).kept (Kept.of_below (Below.refl _ w3).drew (fun _ => False)) (fun hf => hf)
 obtain ⟨w4, hrun, hm4, hk4⟩ := zc6 HWM.out nm HLK.out
 have HM4 := hid hm4
 have HK4 : Hid (Kept (fun b => b = di.mb) w3 w4) := ⟨hk4.os, hk4.tape, hk4.output, hk4.size, hk4.block⟩
 clear hm4 hk4
 go_region
 clear hrun i2 s1
 have HES : Hid (∃ es ck, w3.heap[di.mb]? = some (.map es ck)) := let ⟨es, ck, h, _⟩ := HNI.out.map HDIR.out; ⟨es, ck, h⟩
 have HOLD : Hid (∀ (b : Nat) (c : Array Value) (t : TypeId) (f : Nat × Nat), w3.heap[b]? = some (Obj.cells c t f) → w4.heap[b]? = some (Obj.cells c t f)) := fun b c T f h => by
  obtain ⟨es, ck, hes⟩ := HES.out
  exact (HK4.out.block b (zab h) (zam h hes)).trans h
 have HT4 := hid (HOLD.out _ _ _ _ HRP.out.tree)
 have HI4 := hid (HOLD.out _ _ _ _ HNI.out.cells)
 have HN4 := hid (HOLD.out _ _ _ _ HNK.out.cells)
 have HS4 := hid (HOLD.out _ _ _ _ HS3.out)
 clear s0 s2 k0
 have s2 := zaa (o := 2) HS4.out rfl
 have k3 := zaa (o := 3) HN4.out rfl
 have kf := fun o => zah HN4.out o
 go_upto_region 10 with fail
 clear s2 k3 kf HOLD
 have HN5 : Hid ((w4.setCell ⟨k, 3, none⟩ (.int .i64 (dk.links - 1))).heap[k]? = some (.cells #[.bool dk.dir, dk.bv, mapV dk, .int .i64 (dk.links - 1), .int .i64 dk.tick] 107 (0, 0))) := zaj HN4.out 3 _
 have HT5 : Hid ((w4.setCell ⟨k, 3, none⟩ (.int .i64 (dk.links - 1))).heap[T.tb]? = _) := (zag w4 _ _ (zac HT4.out HN4.out (by decide))).trans HT4.out
 have HI5 : Hid ((w4.setCell ⟨k, 3, none⟩ (.int .i64 (dk.links - 1))).heap[i]? = _) := (zag w4 _ _ HIK.out).trans HI4.out
 have HS5 : Hid ((w4.setCell ⟨k, 3, none⟩ (.int .i64 (dk.links - 1))).heap[sb]? = _) := (zag w4 _ _ (zac HS4.out HN4.out (by decide))).trans HS4.out
 have HK5 : Hid (Kept (fun x => x = T.tb ∨ x = i ∨ x = di.mb ∨ x = k) w (w4.setCell ⟨k, 3, none⟩ (.int .i64 (dk.links - 1)))) := ((Kept.of_below HB3.out _).trans HK4.out (fun b h => .inl (.inr (.inr (.inl h))))).setCell (p := ⟨k, 3, none⟩) (.inl (.inr (.inr (.inr rfl)))) _
 have HM5 : Hid (zcl (w4.setCell ⟨k, 3, none⟩ (.int .i64 (dk.links - 1))) di.mb (di.names.filter fun p => !(nm == p.1))) := HM4.out.kept ((Kept.refl (fun b => b = k) w4).setCell (p := ⟨k, 3, none⟩) (.inl rfl) _) (fun h => by
  obtain ⟨es, ck, h1, _⟩ := HM4.out
  have h : di.mb = k := h
  exact zam HN4.out h1 h.symm)
 generalize w4.setCell ⟨k, 3, none⟩ (.int .i64 (dk.links - 1)) = w5 at *
 clear HT4 HI4 HN4 HS4
 have s2 := zaa (o := 2) HS5.out rfl
 have k0 : w5.cell? ⟨k, 0, none⟩ = some (.bool false) := by
  have h1 : w5.cell? ⟨k, 0, none⟩ = some (.bool dk.dir) := zaa HN5.out rfl
  rw [h1, HKD.out]
 have k3 : w5.cell? ⟨k, 3, none⟩ = some (.int .i64 0) := by
  have h1 : w5.cell? ⟨k, 3, none⟩ = some (.int .i64 (dk.links - 1)) := zaa HN5.out rfl
  rw [h1, HLL.out]; rfl
 have t2 := zaa (o := 2) HT5.out rfl
 have tf := fun o => zah HT5.out o
 go_upto_region 12 with fail
 have HT6 : Hid ((w5.setCell ⟨T.tb, 2, none⟩ (.int .i64 (T.count - 1))).heap[T.tb]? = some (.cells #[ptrV (some T.root), .int .i64 T.clock, .int .i64 (T.count - 1)] 115 (0, 0))) := zaj HT5.out 2 _
 have HI6 : Hid ((w5.setCell ⟨T.tb, 2, none⟩ (.int .i64 (T.count - 1))).heap[i]? = _) := (zag w5 _ _ (zac HI5.out HT5.out (by decide))).trans HI5.out
 have HS6 : Hid ((w5.setCell ⟨T.tb, 2, none⟩ (.int .i64 (T.count - 1))).heap[sb]? = _) := (zag w5 _ _ (zac HS5.out HT5.out (by decide))).trans HS5.out
 have HN6 : Hid ((w5.setCell ⟨T.tb, 2, none⟩ (.int .i64 (T.count - 1))).heap[k]? = _) := (zag w5 _ _ (zac HN5.out HT5.out (by decide))).trans HN5.out
 have HK6 : Hid (Kept (fun x => x = T.tb ∨ x = i ∨ x = di.mb ∨ x = k) w (w5.setCell ⟨T.tb, 2, none⟩ (.int .i64 (T.count - 1)))) := HK5.out.setCell (p := ⟨T.tb, 2, none⟩) (.inl (.inl rfl)) _
 have HM6 : Hid (zcl (w5.setCell ⟨T.tb, 2, none⟩ (.int .i64 (T.count - 1))) di.mb (di.names.filter fun p => !(nm == p.1))) := HM5.out.kept ((Kept.refl (fun b => b = T.tb) w5).setCell (p := ⟨T.tb, 2, none⟩) (.inl rfl) _) (fun h => by
  obtain ⟨es, ck, h1, _⟩ := HM5.out
  have h : di.mb = T.tb := h
  exact zam HT5.out h1 h.symm)
 generalize w5.setCell ⟨T.tb, 2, none⟩ (.int .i64 (T.count - 1)) = w6 at *
 clear s2 k0 k3 t2 tf HT5 HI5 HS5
 have s0 := zaa (o := 0) HS6.out rfl
 have HBA := hid (zad w6 (.cells #[.pointer (some ⟨i, 0, none⟩)] 103))
 have HSA := hid (heap_alloc_new w6 (.cells #[.pointer (some ⟨i, 0, none⟩)] 103))
 go_wp2_with fail
 generalize w6.alloc (.cells #[.pointer (some ⟨i, 0, none⟩)] 103) = wA at *
 have HTA := hid (zae HBA.out (zab HT6.out) HT6.out)
 have HNA := hid (zae HBA.out (zab HN6.out) HN6.out)
 have HIA := hid (zae HBA.out (zab HI6.out) HI6.out)
 refine (tick1 hck0 hck HTA.out HIA.out HSA.out).mono ?_
 intro e w7 hp
 obtain ⟨rfl, hT7, hI7, hK7⟩ := hp
 have HT7 := hid hT7
 have HI7 := hid hI7
 have HK7 := hid hK7
 clear hT7 hI7 hK7
 have HX : Hid (zcy B w T i di nm k dk (.returned .nilIface) w7) := by
  have hKK : Kept (fun x => x = T.tb ∨ x = i ∨ x = di.mb ∨ x = k) w w7 := (HK6.out.then_below HBA.out).trans HK7.out (fun b h => by
   rcases h with h | h
   ·exact .inl (.inl h)
   ·exact .inl (.inr (.inl h)))
  have hM7 : zcl w7 di.mb (di.names.filter fun p => !(nm == p.1)) := (HM6.out.kept (Kept.of_below HBA.out (fun _ => False)) (fun h => h)).kept HK7.out (fun h => by
   obtain ⟨es, ck, h1, _⟩ := HM6.out
   rcases h with h | h
   ·exact zam HT6.out h1 h.symm
   ·exact zam HI6.out h1 h.symm)
  have hN7 := (HK7.out.block k (zab HNA.out) (fun h => by
   rcases h with h | h
   ·exact zac HNA.out HTA.out (by decide) h
   ·exact HIK.out h.symm)).trans HNA.out
  obtain ⟨q1, q2⟩ := pruned_rep HR.out HDI.out HDIR.out HDK.out HIK.out HRT.out HBR.out (fun h => by rw [HKD.out] at h; cases h) hKK (by rw [if_pos (.inr HLL.out)]; exact HT7.out) HI7.out (fun _ => hN7) hM7
  refine ⟨rfl, q1, hKK.mono ?_, q2⟩
  rintro x (rfl | rfl | rfl | rfl)
  ·exact .inl rfl
  ·exact .inr (.inl ⟨di, HDI.out⟩)
  ·exact .inr (.inr ⟨i, di, HDI.out, .inl ⟨HDIR.out, rfl⟩⟩)
  ·exact .inr (.inl ⟨dk, HDK.out⟩)
 go_wp2_with fail
 go_ret
 exact HX.out
set_option maxRecDepth 100000 in
set_option maxHeartbeats 2000000 in
theorem remove_more {E : Nat → Addr} {B : Nat} {T : Tr} (p : ByteArray) (w : World) (hE : Ctx E B w) (hR : Rep B w T) (hsz : p.size ≤ 9223372036854775807) (hck0 : 0 ≤ T.clock) (hck : T.clock ≤ 1152921504606846976) (s : Spot) (hf : T.find p = .ok s)
  (i k : Nat) (hin : s.inn = some i) (hk : s.n = some k) (di dk : Nd) (hdi : T.nd i = some di) (hdir : di.dir = true) (hdk : T.nd k = some dk) (hkd : dk.dir = false) (hlk : look di.names s.name = some k) (hl0 : 0 ≤ dk.links) (hl1 : dk.links ≤ 1152921504606846976) (hl : dk.links ≠ 1) (hik : i ≠ k) (hroot : T.root ≠ k) :
  Calls Tryz.prog 29 #[.pointer (some ⟨T.tb, 0, none⟩), .string p] w fun e w' => zcy B w T i di s.name k dk e w' := by
 have HF := zbz p w hE hR hsz
 rw [hf] at HF
 have HC : Hid (Calls Tryz.prog 55 #[.pointer (some ⟨T.tb, 0, none⟩), .string p] w fun e w' => zbn E w (.ok s) e w') := HF
 have HR := hid hR
 have HDI := hid hdi
 have HDIR := hid hdir
 have HDK := hid hdk
 have HLL := hid hl
 have hlm : ¬ dk.links - 1 = 0 := by omega
 clear hl
 have HKD := hid hkd
 have HBR : Hid (dk.names = []) := (hR.node k dk hdk).file hkd
 obtain ⟨inn, nm, nn⟩ := s
 have hk' : nn = some k := hk
 have hi' : inn = some i := hin
 subst hk' hi'
 have HLK : Hid (look di.names nm = some k) := hlk
 have HIK := hid hik
 have HRT := hid hroot
 clear HF hE hR hf hk hin hdi hdir hdk hkd hlk hik hroot
 go_enter Tryz.func29, Tryz.ntmps29
 go_wp2_with fail
 refine HC.out.mono ?_
 rintro e w1 ⟨hb, rfl⟩
 have HB1 : Hid (Below w.heap.size w w1) := hb
 clear hb
 simp only [zct, zau]
 obtain ⟨w3, hw3⟩ : ∃ w3, w3 = w1.alloc (.cells #[.pointer (some ⟨i, 0, none⟩), .string nm, .pointer (some ⟨k, 0, none⟩)] 142) := ⟨_, rfl⟩
 have HW3 := hid hw3
 have HB3 : Hid (Below w.heap.size w w3) := by rw [hw3]; exact HB1.out.alloc HB1.out.size _
 have HS3 : Hid (w3.heap[w1.heap.size]? = some (.cells #[.pointer (some ⟨i, 0, none⟩), .string nm, .pointer (some ⟨k, 0, none⟩)] 142 (0, 0))) := by rw [hw3]; exact heap_alloc_new w1 _
 clear hw3
 go_upto_region 2 with fail
 rw [← HW3.out]
 clear HW3 HB1
 generalize w1.heap.size = sb at *
 have HRP := hid (HR.out.below HB3.out)
 have HNK := hid (HRP.out.node k dk HDK.out)
 have HNI := hid (HRP.out.node i di HDI.out)
 have s0 := zaa (o := 0) HS3.out rfl
 have s1 := zaa (o := 1) HS3.out rfl
 have s2 := zaa (o := 2) HS3.out rfl
 have k0 : w3.cell? ⟨k, 0, none⟩ = some (.bool false) := by
  have h1 : w3.cell? ⟨k, 0, none⟩ = some (.bool dk.dir) := zaa HNK.out.cells rfl
  rw [h1, HKD.out]
 have i2 : w3.cell? ⟨i, 2, none⟩ = some (.map (some di.mb)) := by
  have h1 : w3.cell? ⟨i, 2, none⟩ = some (mapV di) := zaa HNI.out.cells rfl
  rw [h1]; simp [mapV, HDIR.out]
 go_upto_region 8 with fail
 have HWM : Hid (zcl w3.drew di.mb di.names) := (HNI.out.map HDIR.out).kept (Kept.of_below (Below.refl _ w3).drew (fun _ => False)) (fun hf => hf)
 obtain ⟨w4, hrun, hm4, hk4⟩ := zc6 HWM.out nm HLK.out
 have HM4 := hid hm4
 have HK4 : Hid (Kept (fun b => b = di.mb) w3 w4) := ⟨hk4.os, hk4.tape, hk4.output, hk4.size, hk4.block⟩
 clear hm4 hk4
 go_region
 clear hrun i2 s1
 have HES : Hid (∃ es ck, w3.heap[di.mb]? = some (.map es ck)) := let ⟨es, ck, h, _⟩ := HNI.out.map HDIR.out; ⟨es, ck, h⟩
 have HOLD : Hid (∀ (b : Nat) (c : Array Value) (t : TypeId) (f : Nat × Nat), w3.heap[b]? = some (Obj.cells c t f) → w4.heap[b]? = some (Obj.cells c t f)) := fun b c T f h => by
  obtain ⟨es, ck, hes⟩ := HES.out
  exact (HK4.out.block b (zab h) (zam h hes)).trans h
 have HT4 := hid (HOLD.out _ _ _ _ HRP.out.tree)
 have HI4 := hid (HOLD.out _ _ _ _ HNI.out.cells)
 have HN4 := hid (HOLD.out _ _ _ _ HNK.out.cells)
 have HS4 := hid (HOLD.out _ _ _ _ HS3.out)
 clear s0 s2 k0
 have s2 := zaa (o := 2) HS4.out rfl
 have k3 := zaa (o := 3) HN4.out rfl
 have kf := fun o => zah HN4.out o
 go_upto_region 10 with fail
 clear s2 k3 kf HOLD
 have HN5 : Hid ((w4.setCell ⟨k, 3, none⟩ (.int .i64 (dk.links - 1))).heap[k]? = some (.cells #[.bool dk.dir, dk.bv, mapV dk, .int .i64 (dk.links - 1), .int .i64 dk.tick] 107 (0, 0))) := zaj HN4.out 3 _
 have HT5 : Hid ((w4.setCell ⟨k, 3, none⟩ (.int .i64 (dk.links - 1))).heap[T.tb]? = _) := (zag w4 _ _ (zac HT4.out HN4.out (by decide))).trans HT4.out
 have HI5 : Hid ((w4.setCell ⟨k, 3, none⟩ (.int .i64 (dk.links - 1))).heap[i]? = _) := (zag w4 _ _ HIK.out).trans HI4.out
 have HS5 : Hid ((w4.setCell ⟨k, 3, none⟩ (.int .i64 (dk.links - 1))).heap[sb]? = _) := (zag w4 _ _ (zac HS4.out HN4.out (by decide))).trans HS4.out
 have HK5 : Hid (Kept (fun x => x = T.tb ∨ x = i ∨ x = di.mb ∨ x = k) w (w4.setCell ⟨k, 3, none⟩ (.int .i64 (dk.links - 1)))) := ((Kept.of_below HB3.out _).trans HK4.out (fun b h => .inl (.inr (.inr (.inl h))))).setCell (p := ⟨k, 3, none⟩) (.inl (.inr (.inr (.inr rfl)))) _
 have HM5 : Hid (zcl (w4.setCell ⟨k, 3, none⟩ (.int .i64 (dk.links - 1))) di.mb (di.names.filter fun p => !(nm == p.1))) := HM4.out.kept ((Kept.refl (fun b => b = k) w4).setCell (p := ⟨k, 3, none⟩) (.inl rfl) _) (fun h => by
  obtain ⟨es, ck, h1, _⟩ := HM4.out
  have h : di.mb = k := h
  exact zam HN4.out h1 h.symm)
 generalize w4.setCell ⟨k, 3, none⟩ (.int .i64 (dk.links - 1)) = w5 at *
 clear HT4 HI4 HN4 HS4
 have s2 := zaa (o := 2) HS5.out rfl
 have k0 : w5.cell? ⟨k, 0, none⟩ = some (.bool false) := by
  have h1 : w5.cell? ⟨k, 0, none⟩ = some (.bool dk.dir) := zaa HN5.out rfl
  rw [h1, HKD.out]
 have k3 := zaa (o := 3) HN5.out rfl
 have t2 := zaa (o := 2) HT5.out rfl
 have tf := fun o => zah HT5.out o
 go_upto_region 12 with fail
 have HT6 := hid HT5.out
 have HI6 := hid HI5.out
 have HS6 := hid HS5.out
 have HN6 := hid HN5.out
 have HK6 := hid HK5.out
 have HM6 := hid HM5.out
 clear HK5 HM5 HN5
 generalize w5 = w6 at *
 clear s2 k0 k3 t2 tf HT5 HI5 HS5
 have s0 := zaa (o := 0) HS6.out rfl
 have HBA := hid (zad w6 (.cells #[.pointer (some ⟨i, 0, none⟩)] 103))
 have HSA := hid (heap_alloc_new w6 (.cells #[.pointer (some ⟨i, 0, none⟩)] 103))
 go_wp2_with fail
 generalize w6.alloc (.cells #[.pointer (some ⟨i, 0, none⟩)] 103) = wA at *
 have HTA := hid (zae HBA.out (zab HT6.out) HT6.out)
 have HNA := hid (zae HBA.out (zab HN6.out) HN6.out)
 have HIA := hid (zae HBA.out (zab HI6.out) HI6.out)
 refine (tick1 hck0 hck HTA.out HIA.out HSA.out).mono ?_
 intro e w7 hp
 obtain ⟨rfl, hT7, hI7, hK7⟩ := hp
 have HT7 := hid hT7
 have HI7 := hid hI7
 have HK7 := hid hK7
 clear hT7 hI7 hK7
 have HX : Hid (zcy B w T i di nm k dk (.returned .nilIface) w7) := by
  have hKK : Kept (fun x => x = T.tb ∨ x = i ∨ x = di.mb ∨ x = k) w w7 := (HK6.out.then_below HBA.out).trans HK7.out (fun b h => by
   rcases h with h | h
   ·exact .inl (.inl h)
   ·exact .inl (.inr (.inl h)))
  have hM7 : zcl w7 di.mb (di.names.filter fun p => !(nm == p.1)) := (HM6.out.kept (Kept.of_below HBA.out (fun _ => False)) (fun h => h)).kept HK7.out (fun h => by
   obtain ⟨es, ck, h1, _⟩ := HM6.out
   rcases h with h | h
   ·exact zam HT6.out h1 h.symm
   ·exact zam HI6.out h1 h.symm)
  have hN7 := (HK7.out.block k (zab HNA.out) (fun h => by
   rcases h with h | h
   ·exact zac HNA.out HTA.out (by decide) h
   ·exact HIK.out h.symm)).trans HNA.out
  obtain ⟨q1, q2⟩ := pruned_rep HR.out HDI.out HDIR.out HDK.out HIK.out HRT.out HBR.out (fun h => by rw [HKD.out] at h; cases h) hKK (by rw [if_neg (by rintro (h | h); rw [HKD.out] at h; cases h; exact HLL.out h)]; simpa using HT7.out) HI7.out (fun _ => hN7) hM7
  refine ⟨rfl, q1, hKK.mono ?_, q2⟩
  rintro x (rfl | rfl | rfl | rfl)
  ·exact .inl rfl
  ·exact .inr (.inl ⟨di, HDI.out⟩)
  ·exact .inr (.inr ⟨i, di, HDI.out, .inl ⟨HDIR.out, rfl⟩⟩)
  ·exact .inr (.inl ⟨dk, HDK.out⟩)
 go_wp2_with fail
 go_ret
 exact HX.out
end
section
end
end Go.Proofs.YteeeaeiafdgpkaaGreatDoor
