/-
 slices.Sorted(maps.Keys(names)): a directory's names, sorted.
 A strings.Builder: what is written to it.
 scan.Base and scan.Text of a number that is not below zero: its decimal digits.
 (*Tree).Text: the tree, written.
 (*Tree).Text, called: the tree's text.
-/
import Derived.Test.YteeeaeiafdgpkaaGreatDoorIter
import Derived.Test.YteeeaeiafdgpkaaGreatDoorNewA
import Derived.Lib.Hide
import Derived.Test.YteeeaeiafdgpkaaGreatDoorStrA
import Derived.Lib.Builder
import Derived.Lib.AppendStr
import Derived.Lib.OthersKept
import Derived.Lib.ItoaNum
import Derived.Deep.DeepCutAuto
import Derived.Test.YteeeaeiafdgpkaaGreatDoorShelf
import Derived.Laws.EntriesVeiled
namespace Go.Proofs.YteeeaeiafdgpkaaGreatDoor
open Go Go.RowKit
open Go.Lib (hid)
section
open Go.Maps Go.Sort
def nameL (p : ByteArray × Nat) : List UInt8 := p.1.data.toList
def zan (names : List (ByteArray × Nat)) : List (List UInt8) := (names.map nameL).mergeSort fun x y => decide (x ≤ y)
def nodeR (_ : Value) : Option (DataW Unit × List MemPlace) := some (.nil, [])
theorem rg_str {e : MapEntry} {s : ByteArray} (h : e.key = .string s) (hs : s.size ≤ maxLen) : WideElems.rd Tryz.prog 9 nodeR e = some (.string s.data.toList, .nil) := by
 have hu : Tryz.prog.underlying 9 = some .string := Tryz.underlying9
 simp [WideElems.rd, h, keyOf, hu, mapKey, hs, nodeR]
theorem ownsMap_of {w : World} {mb : Nat} {names : List (ByteArray × Nat)} (h : zcl w mb names) (hs : ∀ p ∈ names, p.1.size ≤ 9223372036854775807) (hn : names.length ≤ 1000000000) :
  ∃ D : DataW Unit, w.ownsMap Tryz.prog 9 nodeR mb names.length D ∧ (strKeys D).Perm (names.map nameL) ∧ Maps.size D = names.length := by
 obtain ⟨es, clock, hb, he, hst⟩ := h
 have hlen : es.toList.length = names.length := by
  have := congrArg List.length he
  simpa using this
 have hkey : ∀ x ∈ es.toList, ∃ s : ByteArray, x.key = .string s ∧ s.size ≤ maxLen := by
  intro x hx
  have h1 : (x.key, x.val) ∈ es.toList.map (fun e => (e.key, e.val)) := List.mem_map.2 ⟨x, hx, rfl⟩
  rw [he] at h1
  obtain ⟨p, hp, h2⟩ := List.mem_map.1 h1
  simp only [Prod.mk.injEq] at h2
  exact ⟨p.1, h2.1.symm, by unfold maxLen; exact hs p hp⟩
 have hread : ∀ x ∈ es.toList, ∃ y, WideElems.rd Tryz.prog 9 nodeR x = some y := fun x hx => by
  obtain ⟨s, h1, h2⟩ := hkey x hx
  exact ⟨_, rg_str h1 h2⟩
 have hperm := WideShapes.sorted_perm (es.toList.map (WideElems.rg Tryz.prog 9 nodeR))
 have hst2 : ∀ (l : List MapEntry) (nl : List (ByteArray × Nat)), (∀ x ∈ l, ∃ s : ByteArray, x.key = .string s ∧ s.size ≤ maxLen) → l.map (fun e => (e.key, e.val)) = nl.map (fun p => (Value.string p.1, Value.pointer (some ⟨p.2, 0, none⟩))) →
   (l.map (WideElems.rg Tryz.prog 9 nodeR)).map (fun p => Go.strOf p.1) = nl.map nameL := by
  intro l
  induction l with
  | nil => intro nl _ h; cases nl with
   | nil => rfl
   | cons => cases h
  | cons x l ih =>
   intro nl hk h
   cases nl with
   | nil => cases h
   | cons p nl =>
    simp only [List.map_cons, List.cons.injEq, Prod.mk.injEq] at h
    obtain ⟨s, h1, h2⟩ := hk x (List.mem_cons_self ..)
    have h3 : s = p.1 := by
     have := h.1.1
     rw [h1] at this
     simpa using this
    simp only [List.map_cons]
    rw [ih nl (fun y hy => hk y (List.mem_cons_of_mem _ hy)) h.2, WideElems.rg_of (rg_str h1 h2), h3]
    rfl
 refine ⟨_, ⟨es, clock, hb, ⟨by rw [← Array.length_toList, hlen]; unfold maxLen; omega, hst, hread⟩, by rw [← Array.length_toList, hlen]; exact Nat.le_refl _, rfl⟩, ?_, ?_⟩
 ·show (((es.toList.map (WideElems.rg Tryz.prog 9 nodeR)).foldr DataW.insert []).map fun p => Go.strOf p.1).Perm _
  rw [← hst2 es.toList names hkey he]
  exact hperm.map _
 ·rw [Maps.size_eq, hperm.length_eq, List.length_map, hlen]
def SortPost (w : World) (names : List (ByteArray × Nat)) (e : Ending) (w' : World) : Prop :=
 ∃ v, e = .returned v ∧ w'.ownsRow w.heap.size 9 1 v (zan names).length ((zan names).map encStr) ∧ Below w.heap.size w w'
theorem sortedNames_perm {names : List (ByteArray × Nat)} {l : List (List UInt8)} (h : l.Perm (names.map nameL)) : l.mergeSort (fun x y => decide (x ≤ y)) = zan names := mergeSort_of_perm h
theorem keys_names (mb : Option Nat) (w : World) : Calls Tryz.prog 42 #[.map mb] w fun e w' => e = .returned (.func (.func 72) #[] #[.pointer (some ⟨w.heap.size, 0, none⟩)]) ∧ w' = w.alloc (.cells #[.map mb] 105) :=
 (callsIn_wide (n := 5)).1 (Tryz.maps_Keys mb w)
theorem sorted_names {w : World} {mb : Nat} {names : List (ByteArray × Nat)} (h : zcl w mb names) (hs : ∀ p ∈ names, p.1.size ≤ 9223372036854775807) (hn : names.length ≤ 1000000000) :
  Calls Tryz.prog 41 #[.func (.func 72) #[] #[.pointer (some ⟨w.heap.size, 0, none⟩)]] (w.alloc (.cells #[.map (some mb)] 105)) fun e w' => SortPost (w.alloc (.cells #[.map (some mb)] 105)) names e w' := by
 obtain ⟨D, hown, hperm, hsz⟩ := ownsMap_of h hs hn
 refine ((callsIn_wide (n := 5)).1 (Tryz.sorted_keys mb _ D _ w hown (by rw [hsz]; unfold maxLen; omega) (by rw [hsz]; omega))).mono ?_
 rintro e w' ⟨v, ss, rfl, hp, hrow, _, hb⟩
 have e1 : ss.mergeSort (fun x y => decide (x ≤ y)) = zan names := sortedNames_perm (hp.trans hperm)
 have e2 : ss.length = (zan names).length := by rw [← e1, (List.mergeSort_perm ss _).length_eq]
 rw [e1, e2] at hrow
 exact ⟨v, rfl, hrow, hb⟩
theorem sorted_nil (w : World) :
  Calls Tryz.prog 41 #[.func (.func 72) #[] #[.pointer (some ⟨w.heap.size, 0, none⟩)]] (w.alloc (.cells #[.map none] 105)) fun e w' => SortPost (w.alloc (.cells #[.map none] 105)) [] e w' := by
 refine ((callsIn_wide (n := 5)).1 (Tryz.sorted_keys_nil w)).mono ?_
 rintro e w' ⟨v, ss, rfl, hp, hrow, _, hb⟩
 subst hp
 have e1 : zan [] = [] := by simp [zan]
 exact ⟨v, rfl, by rw [e1]; simpa using hrow, hb⟩
end
abbrev Bld (B b : Nat) (l : List UInt8) (w : World) : Prop := Lib.IsBuilder 101 5 B b (u8s l) w
def BWPost (B b : Nat) (l : List UInt8) (n : Nat) (w : World) (e : Ending) (w' : World) : Prop :=
 e = .returned (.tuple #[.int .i64 n, .nilIface]) ∧ Bld B b l w' ∧ Below B w w' ∧ Lib.OthersKept 5 (some b) w w'
theorem bld_parts {B b : Nat} {l : List UInt8} {w : World} (h : Bld B b l w) : B ≤ b ∧ ∃ p v, (p = .pointer none ∨ p = .pointer (some ⟨b, 0, none⟩)) ∧ w.heap[b]? = some (.cells #[p, v] 101 (0, 0)) ∧ w.ownsRow B 5 1 v l.length (u8s l) ∧ v.ownBlock ≠ some b := by
 rcases h with ⟨h1, v, h2, h3, h4⟩ | ⟨h1, v, h2, h3, h4⟩
 ·exact ⟨h1, _, v, .inl rfl, h2, by rw [zb1] at h3; exact h3, h4⟩
 ·exact ⟨h1, _, v, .inr rfl, h2, by rw [zb1] at h3; exact h3, h4⟩
theorem row_cells' {w : World} {base n : Nat} {e : TypeId} {size : Nat} {v : Value} {xs : List Value} (h : w.ownsRow base e size v n xs) {r : Nat} (hr : v.ownBlock = some r) : ∃ c, w.heap[r]? = some (.cells c e (0, 0)) := by
 rcases h.2 with ⟨rfl, _⟩ | ⟨g, cap, cur, rfl, _, h1, _⟩
 ·cases hr
 ·simp only [Value.ownBlock, Option.some.injEq] at hr
  subst hr
  exact ⟨cur, h1⟩
theorem others_set (w : World) (b o : Nat) (x : Value) (e : TypeId) : Lib.OthersKept e (some b) w (w.setCell ⟨b, o, none⟩ x) := fun k ob hk hne _ => by
 rw [zag _ _ _ (fun he => hne (by rw [he]))]
 exact hk
theorem Tryz.sizeBuilder : (Tryz.prog.info? 101).map (·.size) = some 2 := by kernel_rfl
theorem Tryz.liesBuilder : liesAt Tryz.prog Tryz.prog.depth 101 (2 / Tryz.prog.cellsOf 101) 0 101 1 = true := by kernel_rfl
set_option maxHeartbeats 1000000 in
set_option maxRecDepth 100000 in
theorem copyCheck_used (b : Nat) (w : World) (h0 : w.cell? ⟨b, 0, none⟩ = some (.pointer (some ⟨b, 0, none⟩))) :
  Calls Tryz.prog 68 #[.pointer (some ⟨b, 0, none⟩)] w fun e w' => e = .returned (.tuple #[]) ∧ w' = w := by
 obtain ⟨j, hj, _⟩ := Option.map_eq_some_iff.1 Tryz.sizeBuilder
 go_enter Tryz.func68, Tryz.ntmps68
 go_wp2
 rw [Lib.run_neq_ptr_same w _ Tryz.underlying99 hj]
 go_wp2
 go_end0
 exact ⟨rfl, rfl⟩
set_option maxHeartbeats 1000000 in
set_option maxRecDepth 100000 in
theorem copyCheck_fresh (b : Nat) (w : World) (h0 : w.cell? ⟨b, 0, none⟩ = some (.pointer none)) (hsh : w.shape? b = some (101, 2)) (hfz : w.frozen? ⟨b, 0, none⟩ = false) :
  Calls Tryz.prog 68 #[.pointer (some ⟨b, 0, none⟩)] w fun e w' => e = .returned (.tuple #[]) ∧ w' = w.setCell ⟨b, 0, none⟩ (.pointer (some ⟨b, 0, none⟩)) := by
 obtain ⟨j, hj, hjs⟩ := Option.map_eq_some_iff.1 Tryz.sizeBuilder
 go_enter Tryz.func68, Tryz.ntmps68
 go_wp2
 rw [Lib.run_to_unsafe w ⟨b, 0, none⟩ Tryz.underlying99 Tryz.underlying170 hj (by rw [hjs]; decide) hsh (Nat.zero_lt_succ 1)]
 simp only [Result.andThen]
 rw [Oper.upon_value]
 go_wp2
 rw [run_callFunc_extern Tryz.func93 (by kernel_rfl) (by kernel_rfl) (by kernel_rfl) (e := Extern.AbiNoEscape.same) (by kernel_rfl)]
 rw [Lib.run_noEscape]
 simp only [Result.andThen]
 rw [Oper.upon_value]
 go_wp2
 rw [Lib.run_from_unsafe w ⟨b, 0, none⟩ Tryz.underlying170 Tryz.underlying99 hj hsh Tryz.liesBuilder]
 simp only [Result.andThen]
 rw [Oper.upon_value]
 go_wp2
 go_end0
 exact ⟨rfl, rfl⟩
def CCPost (w : World) (b : Nat) (v : Value) (e : Ending) (w' : World) : Prop :=
 e = .returned (.tuple #[]) ∧ w'.heap[b]? = some (.cells #[.pointer (some ⟨b, 0, none⟩), v] 101 (0, 0)) ∧ Kept (fun x => x = b) w w'
theorem copyCheck_ok {b : Nat} {p v : Value} (hp : p = .pointer none ∨ p = .pointer (some ⟨b, 0, none⟩)) (w : World) (h : w.heap[b]? = some (.cells #[p, v] 101 (0, 0))) :
  Calls Tryz.prog 68 #[.pointer (some ⟨b, 0, none⟩)] w fun e w' => CCPost w b v e w' := by
 rcases hp with rfl | rfl
 ·refine (copyCheck_fresh b w (zaa h rfl) (by simp [World.shape?, h]) (zah h 0)).mono ?_
  rintro e w' ⟨rfl, rfl⟩
  exact ⟨rfl, zaj h 0 _, (Kept.refl (fun x => x = b) _).setCell (p := ⟨b, 0, none⟩) (.inl rfl) _⟩
 ·refine (copyCheck_used b w (zaa h rfl)).mono ?_
  rintro e w' ⟨rfl, rfl⟩
  exact ⟨rfl, h, Kept.refl _ _⟩
theorem others_of_kept {w w' : World} {b : Nat} {e : TypeId} (k : Kept (fun x => x = b) w w') : Lib.OthersKept e (some b) w w' := fun x o hx hne _ =>
 (k.block x (zab hx) (fun he => hne (by rw [he]))).trans hx
set_option maxHeartbeats 1000000 in
set_option maxRecDepth 100000 in
theorem writeString_ok {B b : Nat} {l : List UInt8} (s : ByteArray) (w : World) (h : Bld B b l w) (hlen : l.length + s.size ≤ 140737488355328) (hB : B ≤ w.heap.size) :
  Calls Tryz.prog 39 #[.pointer (some ⟨b, 0, none⟩), .string s] w fun e w' => BWPost B b (l ++ s.data.toList) s.size w e w' := by
 obtain ⟨hBb, p, v, hp, h0, hrow, hne⟩ := bld_parts h
 have HCC := hid (copyCheck_ok hp w h0)
 obtain ⟨i0, hi, hz0, hz1, hz2⟩ := info_parts infoU8
 have HROW := hid hrow
 have HNE := hid hne
 have H0 := hid h0
 obtain ⟨va, vc, hv⟩ := zak hrow
 subst hv
 clear h h0 hp hrow hne
 go_enter Tryz.func39, Tryz.ntmps39
 go_wp2_with fail
 refine HCC.out.mono ?_
 rintro e w1 ⟨rfl, h1, k1⟩
 have H1 := hid h1
 have K1 := hid k1
 have R1 := hid (zai HROW.out k1 (fun r hr he => HNE.out (by rw [hr, he])))
 have c1 := zaa (o := 1) h1 rfl
 have hs1 : B ≤ w1.heap.size := Nat.le_trans hB k1.size
 clear h1 k1 HCC
 go_wp2_with (at_builtin; refine Lib.wpList_append_own_string _ rfl _ _ 28 9 rfl B 5 i0 Tryz.underlying28 Tryz.underlying9 hi hz0 hz1 hz2 _ _ _ rfl R1.out s rfl (by unfold maxLen; omega) (by omega) hs1 ?_)
 intro v2 w2 hown hgrow _
 obtain ⟨va2, vc2, rfl⟩ := zak hown
 have H2 : Hid (w2.heap[b]? = some (.cells #[.pointer (some ⟨b, 0, none⟩), .slice va l.length vc] 101 (0, 0))) := (hgrow.block b (zab H1.out) (fun e => HNE.out e.symm)).trans H1.out
 have d1 := zaa (o := 1) H2.out rfl
 have f1 := zah H2.out 1
 have HFIN : Hid (BWPost B b (l ++ s.data.toList) s.size w (.returned (.tuple #[.int .i64 s.size, .nilIface])) (w2.setCell ⟨b, 1, none⟩ (.slice va2 (l.length + s.size) vc2))) := by
  have hnb : ∀ r, (Value.slice va2 (l.length + s.size) vc2).ownBlock = some r → r ≠ b := fun r hr => by
   obtain ⟨c, hc⟩ := row_cells' hown hr
   exact zac hc H2.out (by decide)
  refine ⟨rfl, .inr ⟨hBb, _, zaj H2.out 1 _, ?_, fun he => hnb b he rfl⟩, ?_, ?_⟩
  ·have hl : (u8s (l ++ s.data.toList)).length = l.length + s.size := by rw [zb1, List.length_append]; rfl
   rw [hl, zbw]
   exact zai hown (Kept.setCell (F := fun x => x = b) (Kept.refl _ _) (.inl rfl) _) (fun r hr he => hnb r hr he)
  ·have q1 : Below B w w1 := K1.out.below (fun x hx => by omega) hB
   have q2 : Below B w w2 := q1.grown hgrow hs1 (fun r hr => (R1.out.lt r hr).1)
   exact q2.trans ((Kept.setCell (F := fun x => x = b) (Kept.refl _ w2) (p := ⟨b, 1, none⟩) (.inl rfl) _).below (fun x hx => by omega) (Nat.le_trans hs1 hgrow.size))
  ·refine ((others_of_kept K1.out).trans (fun x o hx hne' hk => ?_)).trans (others_set _ _ _ _ _)
   refine (hgrow.block x (zab hx) (fun he => ?_)).trans hx
   obtain ⟨c, hc⟩ := row_cells' R1.out he.symm
   rw [hx] at hc
   exact hk _ _ (Option.some.inj hc)
 clear hown hgrow
 go_wp2_with fail
 go_ret2
 exact HFIN.out
theorem bld_new (w : World) : Bld w.heap.size w.heap.size [] (w.alloc (.cells #[.pointer none, .slice none 0 0] 101)) := Lib.fresh_isBuilder _ _ w
theorem bld_others {B b : Nat} {l : List UInt8} {w w' : World} (h : Bld B b l w) (k : Below w.heap.size w w') : Bld B b l w' := by
 obtain ⟨hBb, p, v, hp, h0, hrow, hne⟩ := bld_parts h
 have h1 := zae k (zab h0) h0
 have h2 := zai hrow (Kept.of_below k (fun _ => False)) (fun _ _ h => h)
 rcases hp with rfl | rfl
 ·exact .inl ⟨hBb, v, h1, by rw [zb1]; exact h2, hne⟩
 ·exact .inr ⟨hBb, v, h1, by rw [zb1]; exact h2, hne⟩
def DecPost (w : World) (l : List UInt8) (e : Ending) (w' : World) : Prop := ∃ S : ByteArray, e = .returned (.string S) ∧ S.data.toList = l ∧ S.size ≤ 21 ∧ Below w.heap.size w w'
theorem dec_small {m : Nat} (h : m / 10 = 0) : Lib.decDigits m = [UInt8.ofNat (48 + m % 10)] := by
 have h1 : m < 10 := by omega
 rw [Lib.decDigits, dif_pos h1, Nat.mod_eq_of_lt h1]
theorem dec_great {m : Nat} (h : m / 10 ≠ 0) : Lib.decDigits m = Lib.decDigits (m / 10) ++ [UInt8.ofNat (48 + m % 10)] := by
 have h1 : ¬ m < 10 := by omega
 rw [Lib.decDigits, dif_neg h1]
def DigAt (w : World) (b : Nat) (done : List UInt8) : Prop :=
 ∃ c : Array Value, w.heap[b]? = some (.cells c 195 (0, 0)) ∧ c.size = 64 ∧ ∀ i (h : i < done.length), c[64 - done.length + i]? = some (.int .u8 done[i].toNat)
theorem DigAt.more {w : World} {b : Nat} {done : List UInt8} (h : DigAt w b done) (hl : done.length < 64) (d : UInt8) : DigAt (w.setCell ⟨b, 63 - done.length, none⟩ (.int .u8 d.toNat)) b (d :: done) := by
 obtain ⟨c, h1, h2, h3⟩ := h
 refine ⟨c.setIfInBounds (63 - done.length) (.int .u8 d.toNat), zaj h1 _ _, by simp [h2], fun i hi => ?_⟩
 rw [Array.getElem?_setIfInBounds]
 simp only [List.length_cons] at hi ⊢
 cases i with
 | zero => rw [if_pos (by omega), if_pos (by omega)]; rfl
 | succ i =>
  rw [if_neg (by omega)]
  have h4 := h3 i (by omega)
  rw [show 64 - (done.length + 1) + (i + 1) = 64 - done.length + i by omega]
  exact h4
theorem DigAt.src {w : World} {b : Nat} {done : List UInt8} (h : DigAt w b done) : Src w (.slice (some ⟨b, 64 - done.length, none⟩) done.length done.length) done := by
 obtain ⟨c, h1, h2, h3⟩ := h
 refine .inr ⟨_, _, rfl, Nat.le_refl _, fun j hj => ?_⟩
 have e : (⟨b, 64 - done.length, none⟩ : Addr).add j = ⟨b, 64 - done.length + j, none⟩ := by
  unfold Addr.add
  by_cases hz : j = 0
  ·subst hz; rfl
  ·simp [hz]
 rw [e]
 exact zaa h1 (h3 j hj)
theorem wrap_u64_div {m : Nat} (h : m < 18446744073709551616) : IntKind.u64.wrap ((m : Int) / 10) = ((m / 10 : Nat) : Int) := by
 rw [IntKind.wrap_u64]
 omega
theorem digs_at : ∀ (d : Nat) (_ : d < 10) (h : d < (⟨#[48, 49, 50, 51, 52, 53, 54, 55, 56, 57, 97, 98, 99, 100, 101, 102]⟩ : ByteArray).size), (⟨#[48, 49, 50, 51, 52, 53, 54, 55, 56, 57, 97, 98, 99, 100, 101, 102]⟩ : ByteArray)[d]'h = UInt8.ofNat (48 + d)
 | 0, _, _ => rfl
 | 1, _, _ => rfl
 | 2, _, _ => rfl
 | 3, _, _ => rfl
 | 4, _, _ => rfl
 | 5, _, _ => rfl
 | 6, _, _ => rfl
 | 7, _, _ => rfl
 | 8, _, _ => rfl
 | 9, _, _ => rfl
 | n + 10, h, _ => absurd h (by omega)
set_option maxRecDepth 100000 in
set_option maxHeartbeats 2000000 in
theorem base_ok (n : Nat) (hn : n < 18446744073709551616) (w : World) :
  Calls Tryz.prog 69 #[.int .u64 n, .int .i64 10, .bool false] w fun e w' => DecPost w (Lib.decDigits n) e w' := by
 have hlt20 : n < 10 ^ 20 := by omega
 have HN := hid hlt20
 have HN64 := hid hn
 clear hlt20 hn
 go_enter Tryz.func69, Tryz.ntmps69
 go_wp2_with fail
 have HD0 : Hid (DigAt (w.alloc (.cells (Array.replicate 64 (.int .u8 0)) 195)) w.heap.size []) := ⟨_, heap_alloc_new w _, by simp, fun i hi => by simp at hi⟩
 have HB0 : Hid (Below w.heap.size w (w.alloc (.cells (Array.replicate 64 (.int .u8 0)) 195))) := zad w _
 go_loopw [0, 9] (fun s0 s9 wr => ∃ (m : Nat) (done : List UInt8), s0 = .int .u64 m ∧ s9 = .int .i64 ((64 - done.length : Nat) : Int) ∧ Hid (Lib.decDigits n = Lib.decDigits m ++ done) ∧ Hid (done.length ≤ 20 ∧ m < 10 ^ (20 - done.length) ∧ (m = 0 → done = []) ∧ m ≤ n) ∧ Hid (DigAt wr w.heap.size done) ∧ Hid (Below w.heap.size w wr)) (fun s0 _ _ => (intOf s0).toNat)
 case atStart => exact ⟨n, [], rfl, rfl, by show _ = _; simp, ⟨by simp, by simpa using HN.out, fun _ => rfl, Nat.le_refl _⟩, HD0.out, HB0.out⟩
 case round =>
  clear HD0 HB0
  obtain ⟨m, done, rfl, rfl, hdec, hbd, hdig, hb⟩ := hrel
  have hl19 : done.length ≤ 19 := by
   obtain ⟨h1, h2, h3, _⟩ := hbd.out
   by_cases hm : m = 0
   ·rw [h3 hm]; simp
   ·rcases Nat.lt_or_ge done.length 20 with h | h
    ·omega
    ·have e : done.length = 20 := by omega
     rw [e] at h2
     omega
  obtain ⟨p, hp⟩ : ∃ p : Nat, p = 64 - done.length := ⟨_, rfl⟩
  obtain ⟨q, hq⟩ : ∃ q : Nat, q = m / 10 := ⟨_, rfl⟩
  obtain ⟨D, hD⟩ : ∃ D : UInt8, D = UInt8.ofNat (48 + m % 10) := ⟨_, rfl⟩
  have hix : ∀ h, (⟨#[48, 49, 50, 51, 52, 53, 54, 55, 56, 57, 97, 98, 99, 100, 101, 102]⟩ : ByteArray)[m % 10]'h = D := by
   intro h
   rw [hD]
   exact digs_at (m % 10) (Nat.mod_lt _ (by decide)) h
  rw [← hp]
  have hp1 : 45 ≤ p := by omega
  have hp2 : p ≤ 64 := by omega
  obtain ⟨c0, hc0, hc1, hc2⟩ := hdig.out
  have g0 : ∃ v, wr.cell? ⟨w.heap.size, p - 1, none⟩ = some v := ⟨_, zaa hc0 (Array.getElem?_eq_getElem (by omega))⟩
  obtain ⟨v0, g0⟩ := g0
  have gf : ∀ o, wr.frozen? ⟨w.heap.size, o, none⟩ = false := fun o => zah hc0 o
  have e1 : IntKind.u64.wrap ((m : Int) / 10) = q := by rw [hq]; exact wrap_u64_div (Nat.lt_of_le_of_lt hbd.out.2.2.2 HN64.out)
  have HP := hid hp
  have HQ := hid hq
  have HDD := hid hD
  have hsl : ∀ W, (Instr.sliceAt 195 (.pointer (some ⟨w.heap.size, 0, none⟩)) (some (.int .i64 ((p : Int) - 1))) none none).run Tryz.prog W = .ok (.slice (some ⟨w.heap.size, p - 1, none⟩) (65 - p) (65 - p)) W := by
   intro W
   have hu : Tryz.prog.underlying 195 = some (.array (Tryz.prog.arrayLen 195) (Tryz.prog.elem 195)) := by kernel_rfl
   have hal : Tryz.prog.arrayLen 195 = 64 := by kernel_rfl
   have hso : (sizeOf (Tryz.prog.elem 195)).run Tryz.prog W = .ok 1 W := by kernel_rfl
   rw [run_sliceAt_array_l W 195 ⟨w.heap.size, 0, none⟩ hu .i64 _ (by omega) (by rw [hal]; omega), hso, hal]
   have e2 : ((p : Int) - 1).toNat = p - 1 := by omega
   simp only [Result.andThen, slicedAt, e2, Nat.mul_one]
   rw [if_neg (by omega)]
   have e3 : (⟨w.heap.size, 0, none⟩ : Addr).add (p - 1) = ⟨w.heap.size, p - 1, none⟩ := by
    unfold Addr.add
    rw [if_neg (by omega)]
    simp
   rw [e3]
   congr 2 <;> omega
  have HM : Hid (DigAt (wr.setCell ⟨w.heap.size, p - 1, none⟩ (.int .u8 D.toNat)) w.heap.size (D :: done)) := by
   have h := hdig.out.more (by omega) D
   rw [show 63 - done.length = p - 1 by omega] at h
   exact h
  have HBW : Hid (Below w.heap.size w (wr.setCell ⟨w.heap.size, p - 1, none⟩ (.int .u8 D.toNat))) :=
   hb.out.trans ((Kept.setCell (F := fun x => x = w.heap.size) (Kept.refl _ wr) (p := ⟨w.heap.size, p - 1, none⟩) (.inl rfl) _).below (fun x hx => by omega) hb.out.size)
  clear hp hq hD hc0 hc1 hc2
  by_cases hq0 : q = 0
  ·subst hq0
   have HRES : Hid (Lib.decDigits n = D :: done) := by
    show _ = _
    rw [hdec.out, dec_small HQ.out.symm, HDD.out]
    rfl
   have hcv : (convert 28 9 (.slice (some ⟨w.heap.size, p - 1, none⟩) (65 - p) (65 - p))).run Tryz.prog (wr.setCell ⟨w.heap.size, p - 1, none⟩ (.int .u8 D.toNat)) = .ok (.string (strOf (D :: done))) (wr.setCell ⟨w.heap.size, p - 1, none⟩ (.int .u8 D.toNat)) := by
    refine zdd ?_
    have h := HM.out.src
    have hpo := HP.out
    rw [show 64 - (D :: done).length = p - 1 by simp; omega, show (D :: done).length = 65 - p by simp; omega] at h
    exact h
   have HSZ : Hid ((strOf (D :: done)).size ≤ 21) := by show _ ≤ _; rw [strOf_size]; simp; omega
   go_wp2_with fail
   go_ret
   exact ⟨_, rfl, by rw [HRES.out]; simp [strOf], HSZ.out, HBW.out⟩
  ·have hq1 : ((q : Int) == 0) = false := by simp; omega
   have HRES : Hid (Lib.decDigits n = Lib.decDigits q ++ (D :: done)) := by
    show _ = _
    rw [hdec.out, dec_great (by rw [← HQ.out]; exact hq0), HDD.out, HQ.out]
    simp
   have hqm : q < m := by have := HQ.out; omega
   have HBD : Hid ((D :: done).length ≤ 20 ∧ q < 10 ^ (20 - (D :: done).length) ∧ (q = 0 → (D :: done) = []) ∧ q ≤ n) := by
    obtain ⟨h1, h2, h3, h4⟩ := hbd.out
    refine ⟨by simp; omega, ?_, fun h => absurd h hq0, by omega⟩
    have e : 20 - done.length = (20 - (D :: done).length) + 1 := by simp; omega
    rw [e, Nat.pow_succ] at h2
    have := HQ.out
    omega
   go_wp2_with fail
   refine ⟨⟨q, D :: done, rfl, ?_, HRES.out, HBD.out, HM.out, HBW.out⟩, ?_⟩
   ·congr 1
    have := HP.out
    simp
    omega
   ·simp [intOf]
    omega
theorem ze7 (n : Int) (h0 : 0 ≤ n) (h1 : n ≤ 9223372036854775807) (w : World) :
  Calls Tryz.prog 40 #[.int .i64 n] w fun e w' => DecPost w (Lib.decDigits n.toNat) e w' := by
 obtain ⟨m, rfl⟩ : ∃ m : Nat, n = m := ⟨n.toNat, by omega⟩
 have HB := hid (base_ok m (by omega) w)
 have hneg : ¬ ((m : Int) < 0) := by omega
 have hw : IntKind.u64.wrap (m : Int) = m := IntWalk.u64_in _ (by omega)
 clear h1
 go_enter Tryz.func40, Tryz.ntmps40
 go_wp2_with fail
 refine HB.out.mono ?_
 rintro e w' ⟨S, rfl, hS, hsz, hb⟩
 have HF : Hid (DecPost w (Lib.decDigits m) (.returned (.string S)) w') := ⟨S, rfl, hS, hsz, hb⟩
 clear hS hsz hb
 go_wp2_with fail
 go_ret
 exact HF.out
def dec (n : Int) : List UInt8 := Lib.decDigits n.toNat
def zdh (path : List UInt8) (d : Nd) : List UInt8 :=
 path ++ (if path = [] then [47] else []) ++ (if d.dir then [32, 100, 32] else [32, 102, 32] ++ dec d.data.length ++ [32] ++ dec d.links ++ [32]) ++ (dec d.tick ++ [10])
def Tr.text (T : Tr) : Nat → List UInt8 → Nat → List UInt8
 | 0, _, _ => []
 | f + 1, path, n => match T.nd n with
  | none => []
  | some d => zdh path d ++ (zan d.names).flatMap fun s => T.text f (path ++ [47] ++ s) ((look d.names ⟨s.toArray⟩).getD 0)
def Tr.deep (T : Tr) : Nat → Nat → Prop
 | 0, _ => False
 | f + 1, n => ∃ d, T.nd n = some d ∧ ∀ p ∈ d.names, T.deep f p.2
def TxOk (T : Tr) : Prop :=
 ∀ n d, T.nd n = some d → 0 ≤ d.links ∧ d.links ≤ 4611686018427387904 ∧ 0 ≤ d.tick ∧ d.tick ≤ 4611686018427387904 ∧ d.data.length ≤ 140737488355328 ∧ d.names.length ≤ 1000000000 ∧ ∀ p ∈ d.names, p.1.size ≤ 140737488355328
theorem Tr.text_succ {T : Tr} {f n : Nat} {d : Nd} (h : T.nd n = some d) (path : List UInt8) :
  T.text (f + 1) path n = zdh path d ++ (zan d.names).flatMap fun s => T.text f (path ++ [47] ++ s) ((look d.names ⟨s.toArray⟩).getD 0) := by
 rw [Tr.text, h]
def funcV (b wb : Nat) : Value := .func (.func 38) #[] #[.pointer (some ⟨b, 0, none⟩), .pointer (some ⟨wb, 0, none⟩)]
structure TS (B0 B b wb : Nat) (T : Tr) (l : List UInt8) (w : World) : Prop where
 rep : Rep B0 w T
 low : ∀ x, T.foot x → x < B
 size : B ≤ w.heap.size
 bld : Bld B b l w
 wlo : B ≤ wb
 ne : wb ≠ b
 fn : w.heap[wb]? = some (.cells #[funcV b wb] 102 (0, 0))
theorem kept_low {B : Nat} {w w' : World} (h : Below B w w') : Kept (fun x => B ≤ x) w w' := ⟨h.os, h.tape, h.output, h.size, fun k _ hk => h.block k (by omega)⟩
theorem TS.next {B0 B b wb : Nat} {T : Tr} {l l' : List UInt8} {w w' : World} (h : TS B0 B b wb T l w) (hb : Bld B b l' w') (k : Below B w w') (o : Lib.OthersKept 5 (some b) w w') : TS B0 B b wb T l' w' :=
 ⟨h.rep.kept (kept_low k) (fun x hx hf => by have h1 := h.low x hx; omega), h.low, Nat.le_trans h.size k.size, hb, h.wlo, h.ne, o wb _ h.fn (fun he => h.ne (Option.some.inj he)) (fun c fz he => by
  simp only [Obj.cells.injEq] at he
  exact absurd he.2.1 (by decide))⟩
theorem TS.below {B0 B b wb : Nat} {T : Tr} {l : List UInt8} {w w' : World} (h : TS B0 B b wb T l w) (k : Below w.heap.size w w') : TS B0 B b wb T l w' :=
 ⟨h.rep.below k, h.low, Nat.le_trans h.size k.size, bld_others h.bld k, h.wlo, h.ne, zae k (zab h.fn) h.fn⟩
def TxPost (B b : Nat) (l : List UInt8) (w : World) (e : Ending) (w' : World) : Prop :=
 e = .returned (.tuple #[]) ∧ Bld B b l w' ∧ Below B w w' ∧ Lib.OthersKept 5 (some b) w w'
theorem zdo {w w' : World} {e : TypeId} {b : Option Nat} (k : Below w.heap.size w w') : Lib.OthersKept e b w w' := fun _ _ hx _ _ => zae k (zab hx) hx
theorem look_some {names : List (ByteArray × Nat)} {s : ByteArray} {k : Nat} (h : (s, k) ∈ names) : ∃ k', look names s = some k' := by
 cases hl : look names s with
 | some k' => exact ⟨k', rfl⟩
 | none => exact absurd rfl (zd8 hl _ h)
theorem mem_sorted {names : List (ByteArray × Nat)} {s : List UInt8} (h : s ∈ zan names) : ∃ k, ((⟨s.toArray⟩ : ByteArray), k) ∈ names := by
 unfold zan at h
 rw [List.mem_mergeSort] at h
 obtain ⟨p, hp, rfl⟩ := List.mem_map.1 h
 exact ⟨p.2, hp⟩
def NamesAt (w : World) (b : Nat) (a : Option Addr) (ss : List (List UInt8)) : Prop :=
 ∀ j (h : j < ss.length), ∃ g cur, a = some ⟨g, 0, none⟩ ∧ g ≠ b ∧ w.heap[g]? = some (.cells cur 9 (0, 0)) ∧ cur[j]? = some (.string ⟨ss[j].toArray⟩)
theorem NamesAt.next {w w' : World} {b : Nat} {a : Option Addr} {ss : List (List UInt8)} (h : NamesAt w b a ss) (o : Lib.OthersKept 5 (some b) w w') : NamesAt w' b a ss := fun j hj => by
 obtain ⟨g, cur, h1, h2, h3, h4⟩ := h j hj
 exact ⟨g, cur, h1, h2, o g _ h3 (fun he => h2 (Option.some.inj he)) (fun c fz he => by
  simp only [Obj.cells.injEq] at he
  exact absurd he.2.1 (by decide)), h4⟩
theorem wsOk {B0 B b wb : Nat} {T : Tr} {l : List UInt8} {w : World} (h : TS B0 B b wb T l w) (s : ByteArray) (hl : l.length + s.size ≤ 140737488355328) :
  Calls Tryz.prog 39 #[.pointer (some ⟨b, 0, none⟩), .string s] w fun e w' => BWPost B b (l ++ s.data.toList) s.size w e w' := writeString_ok s w h.bld hl h.size
theorem zfh (s : ByteArray) : s.size = s.data.toList.length := by rw [Array.length_toList]; rfl
theorem file_room {l2 : List UInt8} {a c : List UInt8} {SN SL : ByteArray} (h : l2.length + 5 + a.length + c.length ≤ 140737488355328) (h1 : SN.data.toList = a) (h2 : SL.data.toList = c) :
  l2.length + ((⟨#[32, 102, 32]⟩ : ByteArray) ++ SN ++ ⟨#[32]⟩ ++ SL ++ ⟨#[32]⟩).size ≤ 140737488355328 := by
 have e1 := zfh SN
 have e2 := zfh SL
 rw [h1] at e1
 rw [h2] at e2
 have c3 : (⟨#[32, 102, 32]⟩ : ByteArray).size = 3 := rfl
 have c1 : (⟨#[32]⟩ : ByteArray).size = 1 := rfl
 simp only [ByteArray.size_append]
 omega
theorem file_line {d : Nd} {l l2 path : List UInt8} {SN SL : ByteArray} (hd : d.dir = false) (h : l2 = l ++ (path ++ (if path = [] then [47] else []))) (h1 : SN.data.toList = dec d.data.length) (h2 : SL.data.toList = dec d.links) :
  l2 ++ ((⟨#[32, 102, 32]⟩ : ByteArray) ++ SN ++ ⟨#[32]⟩ ++ SL ++ ⟨#[32]⟩).data.toList = l ++ (path ++ (if path = [] then [47] else []) ++ (if d.dir then [32, 100, 32] else [32, 102, 32] ++ dec d.data.length ++ [32] ++ dec d.links ++ [32])) := by
 rw [h, hd]
 simp [ByteArray.data_append, h1, h2]
theorem dir_line {d : Nd} {l l2 path : List UInt8} (hd : d.dir = true) (h : l2 = l ++ (path ++ (if path = [] then [47] else []))) :
  l2 ++ (⟨#[32, 100, 32]⟩ : ByteArray).data.toList = l ++ (path ++ (if path = [] then [47] else []) ++ (if d.dir then [32, 100, 32] else [32, 102, 32] ++ dec d.data.length ++ [32] ++ dec d.links ++ [32])) := by
 rw [h, hd]
 simp
theorem tick_room {l3 a : List UInt8} {ST : ByteArray} {r : Nat} (h : l3.length + a.length + 1 + r ≤ 140737488355328) (h1 : ST.data.toList = a) : l3.length + (ST ++ (⟨#[10]⟩ : ByteArray)).size ≤ 140737488355328 := by
 have e1 := zfh ST
 rw [h1] at e1
 have c1 : (⟨#[10]⟩ : ByteArray).size = 1 := rfl
 simp only [ByteArray.size_append]
 omega
theorem tick_left {l3 a : List UInt8} {ST : ByteArray} {r : Nat} (h : l3.length + a.length + 1 + r ≤ 140737488355328) (h1 : ST.data.toList = a) : (l3 ++ (ST ++ (⟨#[10]⟩ : ByteArray)).data.toList).length + r ≤ 140737488355328 := by
 rw [ByteArray.data_append, Array.toList_append, h1]
 simp only [List.length_append, List.length_cons, List.length_nil]
 omega
theorem tick_line {d : Nd} {l l3 path : List UInt8} {ST : ByteArray} (h : l3 = l ++ (path ++ (if path = [] then [47] else []) ++ (if d.dir then [32, 100, 32] else [32, 102, 32] ++ dec d.data.length ++ [32] ++ dec d.links ++ [32]))) (h1 : ST.data.toList = dec d.tick) :
  l3 ++ (ST ++ (⟨#[10]⟩ : ByteArray)).data.toList = l ++ zdh path d := by
 rw [h, ByteArray.data_append, Array.toList_append, h1]
 unfold zdh
 simp only [List.append_assoc]
theorem keys_node (d : Nd) (w : World) : Calls Tryz.prog 42 #[mapV d] w fun e w' => e = .returned (.func (.func 72) #[] #[.pointer (some ⟨w.heap.size, 0, none⟩)]) ∧ w' = w.alloc (.cells #[mapV d] 105) := by
 unfold mapV
 split
 ·exact keys_names (some d.mb) w
 ·exact keys_names none w
theorem sorted_node {B0 n : Nat} {w : World} {d : Nd} (h : NodeAt B0 w n d) (hn : d.names.length ≤ 1000000000) (hs : ∀ p ∈ d.names, p.1.size ≤ 140737488355328) :
  Calls Tryz.prog 41 #[.func (.func 72) #[] #[.pointer (some ⟨w.heap.size, 0, none⟩)]] (w.alloc (.cells #[mapV d] 105)) fun e w' => SortPost (w.alloc (.cells #[mapV d] 105)) d.names e w' := by
 unfold mapV
 cases hd : d.dir with
 | true => exact sorted_names (h.map hd) (fun p hp => by have := hs p hp; omega) hn
 | false =>
  rw [h.file hd]
  exact sorted_nil w
theorem TS.bld_lt {B0 B b wb : Nat} {T : Tr} {l : List UInt8} {w : World} (h : TS B0 B b wb T l w) : b < w.heap.size := by
 obtain ⟨_, p, v, _, h1, _⟩ := bld_parts h.bld
 exact zab h1
theorem names_of_row {w : World} {base b c : Nat} {a : Option Addr} {ss : List (List UInt8)} (h : w.ownsRow base 9 1 (.slice a ss.length c) ss.length (ss.map encStr)) (hb : b < base) : NamesAt w b a ss := by
 intro j hj
 rcases h.2 with ⟨_, h0⟩ | ⟨g, cap, cur, h1, h2, h3, _, _, _, h6⟩
 ·omega
 ·simp only [Value.slice.injEq] at h1
  refine ⟨g, cur, h1.1, by omega, h3, ?_⟩
  have := congrArg (fun x => x[j]?) h6
  simp only [List.getElem?_take, Nat.mul_one, hj, if_true, Array.getElem?_toList, List.getElem?_map, List.getElem?_eq_getElem hj, Option.map_some] at this
  exact this
def Tr.firstTexts (T : Tr) (f : Nat) (path : List UInt8) (d : Nd) (k : Nat) : List UInt8 := ((zan d.names).take k).flatMap fun s => T.text f (path ++ [47] ++ s) ((look d.names ⟨s.toArray⟩).getD 0)
theorem child_text {T : Tr} {f k' : Nat} {d : Nd} {P S : ByteArray} {s : List UInt8} (hS : S = ⟨s.toArray⟩) (h : look d.names S = some k') :
  T.text f (P ++ ⟨#[47]⟩ ++ S).data.toList k' = T.text f (P.data.toList ++ [47] ++ s) ((look d.names ⟨s.toArray⟩).getD 0) := by
 have e : (P ++ ⟨#[47]⟩ ++ S).data.toList = P.data.toList ++ [47] ++ s := by
  rw [hS]
  simp [ByteArray.data_append]
 rw [e, ← hS, h]
 rfl
theorem firstTexts_zero (T : Tr) (f : Nat) (path : List UInt8) (d : Nd) : T.firstTexts f path d 0 = [] := rfl
theorem zek (T : Tr) (f : Nat) (path : List UInt8) (d : Nd) {k : Nat} (h : k < (zan d.names).length) :
  T.firstTexts f path d (k + 1) = T.firstTexts f path d k ++ T.text f (path ++ [47] ++ (zan d.names)[k]) ((look d.names ⟨((zan d.names)[k]).toArray⟩).getD 0) := by
 unfold Tr.firstTexts
 rw [List.take_succ_eq_append_getElem h, List.flatMap_append]
 simp
theorem firstTexts_all (T : Tr) (f : Nat) (path : List UInt8) (d : Nd) : T.firstTexts f path d (zan d.names).length = (zan d.names).flatMap fun s => T.text f (path ++ [47] ++ s) ((look d.names ⟨s.toArray⟩).getD 0) := by
 unfold Tr.firstTexts
 rw [List.take_length]
theorem firstTexts_le (T : Tr) (f : Nat) (path : List UInt8) (d : Nd) (k : Nat) : (T.firstTexts f path d k).length ≤ ((zan d.names).flatMap fun s => T.text f (path ++ [47] ++ s) ((look d.names ⟨s.toArray⟩).getD 0)).length := by
 unfold Tr.firstTexts
 conv => rhs; rw [← List.take_append_drop k (zan d.names), List.flatMap_append, List.length_append]
 omega
set_option maxRecDepth 100000 in
set_option maxHeartbeats 4000000 in
theorem text_walk {B0 B b wb : Nat} {T : Tr} (hok : TxOk T) : ∀ (f : Nat) (P : ByteArray) (n : Nat) (l : List UInt8) (w : World), T.deep f n → TS B0 B b wb T l w → l.length + (T.text f P.data.toList n).length ≤ 140737488355328 →
  Calls Tryz.prog 38 #[.string P, .pointer (some ⟨n, 0, none⟩), .pointer (some ⟨b, 0, none⟩), .pointer (some ⟨wb, 0, none⟩)] w fun e w' => TxPost B b (l ++ T.text f P.data.toList n) w e w' := by
 intro f
 induction f with
 | zero => intro P n l w hd; exact hd.elim
 | succ f ih =>
  intro P n l w hd hts hlen
  obtain ⟨d, hnd, hkids⟩ := hd
  have IH := hid ih
  have HOK := hid hok
  have HND := hid hnd
  have HK := hid hkids
  have HTS := hid hts
  rw [Tr.text_succ hnd, List.length_append] at hlen
  have HLEN := hid hlen
  clear ih hok hkids hlen
  obtain ⟨k1, k2, k3, k4, k5, k6, k7⟩ := HOK.out n d hnd
  have K7 := hid k7
  have hdl : (d.data.length : Int) ≤ 140737488355328 := by omega
  have HPS := hid (zfh P)
  clear hnd hts k7
  have HW1 : Hid (Calls Tryz.prog 39 #[.pointer (some ⟨b, 0, none⟩), .string P] w fun e w' => BWPost B b (l ++ P.data.toList) P.size w e w') := by
   refine wsOk HTS.out P ?_
   have h := HLEN.out
   have e := HPS.out
   unfold zdh at h
   rw [List.length_append, List.length_append, List.length_append] at h
   omega
  have HPE : Hid (P.toList = P.data.toList) := ByteArray.toList_eq P
  go_enter Tryz.func38, Tryz.ntmps38
  go_upto_if 11 with (refine HW1.out.mono ?_; rintro e w1 ⟨rfl, hb1, hk1, ho1⟩)
  have HTS1 := hid (HTS.out.next hb1 hk1 ho1)
  have HB1 := hid hk1
  have HO1 := hid ho1
  clear hb1 hk1 ho1 HW1
  go_cut [] (fun wx => ∃ l2, Hid (TS B0 B b wb T l2 wx) ∧ Hid (Below B w wx) ∧ Hid (Lib.OthersKept 5 (some b) w wx) ∧ Hid (l2 = l ++ (P.data.toList ++ (if P.data.toList = [] then [47] else []))))
  case first =>
   by_cases hP : P.toList.isEmpty = true
   ·have e : P.data.toList = [] := by rw [← HPE.out]; simpa using hP
    have HE := hid e
    have HR1 : Hid ((l ++ P.data.toList).length + (⟨#[47]⟩ : ByteArray).size ≤ 140737488355328) := by
     have h := HLEN.out
     unfold zdh at h
     rw [e] at h ⊢
     simp only [List.append_nil, if_true, List.length_append, List.nil_append, List.length_cons, List.length_nil] at h ⊢
     have e1 : (⟨#[47]⟩ : ByteArray).size = 1 := rfl
     show _ ≤ _
     omega
    clear e
    rw [hP]
    go_wp2_with fail
    refine (wsOk HTS1.out _ HR1.out).mono ?_
    rintro e w2 ⟨rfl, hb2, hk2, ho2⟩
    have HTS2 := hid (HTS1.out.next hb2 hk2 ho2)
    have HB2 := hid (HB1.out.trans hk2)
    have HO2 := hid (HO1.out.trans ho2)
    clear hb2 hk2 ho2
    go_wp2_with fail
    go_meet
    case rel =>
     refine ⟨_, HTS2.out, HB2.out, HO2.out, ?_⟩
     show _ = _
     rw [if_pos HE.out, List.append_assoc]
   ·have hPf : P.toList.isEmpty = false := by simpa using hP
    have e : ¬ P.data.toList = [] := by rw [← HPE.out]; simpa using hP
    have HE := hid e
    clear e hP
    rw [hPf]
    go_wp2_with fail
    go_meet
    case rel =>
     refine ⟨_, HTS1.out, HB1.out, HO1.out, ?_⟩
     show _ = _
     rw [if_neg HE.out, List.append_nil]
  case rest =>
   obtain ⟨l2, HTS2, HB2, HO2, HL2⟩ := hcut
   clear HTS1 HB1 HO1
   have g0 := zaa (o := 0) (HTS2.out.rep.node n d HND.out).cells rfl
   go_upto_if 16 with fail
   go_cut [] (fun wx => ∃ l3, Hid (TS B0 B b wb T l3 wx) ∧ Hid (Below B w wx) ∧ Hid (Lib.OthersKept 5 (some b) w wx) ∧ Hid (l3 = l ++ (P.data.toList ++ (if P.data.toList = [] then [47] else []) ++ (if d.dir then [32, 100, 32] else [32, 102, 32] ++ dec d.data.length ++ [32] ++ dec d.links ++ [32]))))
   case first =>
    cases hdir : d.dir
    ·rw [hdir] at g0
     have HDIR := hid hdir
     have g1 := zaa (o := 1) (HTS2.out.rep.node n d HND.out).cells rfl
     have g3 := zaa (o := 3) (HTS2.out.rep.node n d HND.out).cells rfl
     obtain ⟨ba, bc, hbv⟩ := zak (HTS2.out.rep.node n d HND.out).row
     rw [hbv] at g1
     have HBV := hid hbv
     have HROOM : Hid (l2.length + 5 + (Lib.decDigits (d.data.length : Int).toNat).length + (Lib.decDigits d.links.toNat).length ≤ 140737488355328) := by
      have h := HLEN.out
      have h3 := congrArg List.length HL2.out
      unfold zdh dec at h
      rw [hdir] at h
      simp only [List.length_append, List.length_cons, List.length_nil, Bool.false_eq_true, if_false] at h h3
      show _ ≤ _
      omega
     clear hdir hbv
     go_wp2_with fail
     go_region_with (first
      | (go_at_call_of 40 (Value.int IntKind.i64 d.links); refine (ze7 _ (by omega) (by omega) _).mono ?_; rintro e w' ⟨SL, rfl, hSL, hsL, hb⟩; have HSL := hid hSL; clear hSL; replace HB2 := hid (HB2.out.trans ((show Below _ _ _ from (by first | exact hb | exact ((Below.refl _ _).drew).trans hb)).mono HTS2.out.size)); replace HO2 := hid (HO2.out.trans (zdo (by first | exact hb | exact ((Below.refl _ _).drew).trans hb))); replace HTS2 := hid (HTS2.out.below (by first | exact hb | exact ((Below.refl _ _).drew).trans hb)); clear hb; have q1 := zaa (o := 1) (HTS2.out.rep.node n d HND.out).cells rfl; have q3 := zaa (o := 3) (HTS2.out.rep.node n d HND.out).cells rfl; rw [HBV.out] at q1)
      | (go_at_call 40; refine (ze7 _ (by omega) (by omega) _).mono ?_; rintro e w' ⟨SN, rfl, hSN, hsN, hb⟩; have HSN := hid hSN; clear hSN; replace HB2 := hid (HB2.out.trans ((show Below _ _ _ from (by first | exact hb | exact ((Below.refl _ _).drew).trans hb)).mono HTS2.out.size)); replace HO2 := hid (HO2.out.trans (zdo (by first | exact hb | exact ((Below.refl _ _).drew).trans hb))); replace HTS2 := hid (HTS2.out.below (by first | exact hb | exact ((Below.refl _ _).drew).trans hb)); clear hb; have q1 := zaa (o := 1) (HTS2.out.rep.node n d HND.out).cells rfl; have q3 := zaa (o := 3) (HTS2.out.rep.node n d HND.out).cells rfl; rw [HBV.out] at q1)
      | (go_at_call 39; refine (wsOk HTS2.out _ (file_room HROOM.out HSN.out HSL.out)).mono ?_; rintro e w3 ⟨rfl, hb3, hk3, ho3⟩))
     all_goals
      have HTS3 := hid (HTS2.out.next hb3 hk3 ho3)
      have HB3 := hid (HB2.out.trans hk3)
      have HO3 := hid (HO2.out.trans ho3)
      have HL3 := hid (file_line HDIR.out HL2.out HSN.out HSL.out)
      clear hb3 hk3 ho3
      go_wp2_with fail
      go_meet
      case rel => exact ⟨_, HTS3.out, HB3.out, HO3.out, HL3.out⟩
    ·rw [hdir] at g0
     have HDIR := hid hdir
     have HROOM : Hid (l2.length + (⟨#[32, 100, 32]⟩ : ByteArray).size ≤ 140737488355328) := by
      have h := HLEN.out
      have h3 := congrArg List.length HL2.out
      unfold zdh dec at h
      rw [hdir] at h
      simp only [List.length_append, List.length_cons, List.length_nil, if_true] at h h3
      have c3 : (⟨#[32, 100, 32]⟩ : ByteArray).size = 3 := rfl
      show _ ≤ _
      omega
     clear hdir
     go_wp2_with fail
     refine (wsOk HTS2.out _ HROOM.out).mono ?_
     rintro e w3 ⟨rfl, hb3, hk3, ho3⟩
     have HTS3 := hid (HTS2.out.next hb3 hk3 ho3)
     have HB3 := hid (HB2.out.trans hk3)
     have HO3 := hid (HO2.out.trans ho3)
     have HL3 := hid (dir_line HDIR.out HL2.out)
     clear hb3 hk3 ho3
     go_wp2_with fail
     go_meet
     case rel => exact ⟨_, HTS3.out, HB3.out, HO3.out, HL3.out⟩
   case rest =>
    obtain ⟨l3, HTS3, HB3, HO3, HL3⟩ := hcut
    clear HTS2 HB2 HO2 HL2 g0
    have g4 := zaa (o := 4) (HTS3.out.rep.node n d HND.out).cells rfl
    have HROOM2 : Hid (l3.length + (Lib.decDigits d.tick.toNat).length + 1 + ((zan d.names).flatMap fun s => T.text f (P.data.toList ++ [47] ++ s) ((look d.names ⟨s.toArray⟩).getD 0)).length ≤ 140737488355328) := by
     have h := HLEN.out
     have h3 := congrArg List.length HL3.out
     unfold zdh at h
     unfold dec at h h3
     simp only [List.length_append, List.length_cons, List.length_nil] at h h3
     show _ ≤ _
     omega
    clear HLEN
    go_wp2_with fail
    refine (ze7 _ k3 (by omega) _).mono ?_
    rintro e w4 ⟨ST, rfl, hST, hsT, hb4⟩
    have HST := hid hST
    have HTS4 := hid (HTS3.out.below hb4)
    have HB4 := hid (HB3.out.trans (hb4.mono HTS3.out.size))
    have HO4 := hid (HO3.out.trans (zdo hb4))
    clear hST hb4 g4 HTS3 HB3 HO3
    go_wp2_with fail
    refine (wsOk HTS4.out _ (tick_room HROOM2.out HST.out)).mono ?_
    rintro e w5 ⟨rfl, hb5, hk5, ho5⟩
    have HTS5 := hid (HTS4.out.next hb5 hk5 ho5)
    have HB5 := hid (HB4.out.trans hk5)
    have HO5 := hid (HO4.out.trans ho5)
    have HL5 := hid (tick_line HL3.out HST.out)
    have HROOM5 := hid (tick_left HROOM2.out HST.out)
    clear hb5 hk5 ho5 HTS4 HB4 HO4 HL3 HROOM2
    generalize l3 ++ (ST ++ (⟨#[10]⟩ : ByteArray)).data.toList = l5 at *
    clear HST hsT
    have HN5 := hid (HTS5.out.rep.node n d HND.out)
    have g2 := zaa (o := 2) HN5.out.cells rfl
    go_wp2_with fail
    refine (keys_node d _).mono ?_
    rintro e w6 ⟨rfl, rfl⟩
    go_wp2_with fail
    refine (sorted_node HN5.out k6 K7.out).mono ?_
    rintro e w7 ⟨v, rfl, hrow, hb7⟩
    obtain ⟨va, vc, rfl⟩ := zak hrow
    have HB57 := hid (zaf (zad _ _) hb7)
    have HTS7 := hid (HTS5.out.below HB57.out)
    have HB7 := hid (HB5.out.trans (HB57.out.mono HTS5.out.size))
    have HO7 := hid (HO5.out.trans (zdo HB57.out))
    have HNM := hid (names_of_row hrow (Nat.lt_of_lt_of_le HTS5.out.bld_lt (zad _ _).size))
    have HSSL : Hid ((zan d.names).length = d.names.length) := by show _ = _; unfold zan; rw [(List.mergeSort_perm _ _).length_eq, List.length_map]
    have hssl : ((zan d.names).length : Int) ≤ 1000000000 := by rw [HSSL.out]; omega
    clear hrow hb7 HTS5 HB5 HO5 HB57 g2 HN5 HSSL
    obtain ⟨ss, hss⟩ : ∃ ss, ss = zan d.names := ⟨_, rfl⟩
    have HSS := hid hss
    rw [← hss] at HNM hssl ⊢
    clear hss
    go_wp2_with fail
    go_loopw [48] (fun idx wr => ∃ k : Nat, k ≤ ss.length ∧ idx = .int .i64 k ∧ Hid (TS B0 B b wb T (l5 ++ T.firstTexts f P.data.toList d k) wr) ∧ Hid (Below B w wr) ∧ Hid (Lib.OthersKept 5 (some b) w wr) ∧ Hid (NamesAt wr b va ss)) (fun idx _ => ss.length - (intOf idx).toNat)
    case atStart => exact ⟨0, Nat.zero_le _, rfl, by rw [firstTexts_zero, List.append_nil]; exact HTS7.out, HB7.out, HO7.out, HNM.out⟩
    case round =>
     clear HTS7 HB7 HO7 HNM
     obtain ⟨k, hk, rfl, hts, hbw, how, hnm⟩ := hrel
     by_cases hlt : k < ss.length
     ·have hki : (k : Int) < ss.length := by omega
      obtain ⟨gb, cur, hva, hgb, hg, hcur⟩ := hnm.out k hlt
      subst hva
      have HNR : Hid (NamesAt wr.drew b (some ⟨gb, 0, none⟩) ss) := hnm.out
      have hcell := zaa (o := k) hg hcur
      obtain ⟨S, hS⟩ : ∃ S : ByteArray, S = ⟨(ss[k]).toArray⟩ := ⟨_, rfl⟩
      rw [← hS] at hcell
      have HMEM : Hid (∃ kk, (S, kk) ∈ d.names) := by
       rw [hS]
       exact mem_sorted (by rw [← HSS.out]; exact List.getElem_mem hlt)
      obtain ⟨k', hlk⟩ : ∃ k', look d.names S = some k' := by
       obtain ⟨kk, hm⟩ := HMEM.out
       exact look_some hm
      have hdir : d.dir = true := by
       cases hdd : d.dir with
       | true => rfl
       | false =>
        have h := (hts.out.rep.node n d HND.out).file hdd
        obtain ⟨kk, hm⟩ := HMEM.out
        rw [h] at hm
        cases hm
      have hmc : wr.cell? ⟨n, 2, none⟩ = some (.map (some d.mb)) := by
       have h1 := zaa (o := 2) (hts.out.rep.node n d HND.out).cells rfl
       have h2 : mapV d = .map (some d.mb) := by unfold mapV; rw [hdir]; rfl
       rw [h2] at h1
       exact h1
      have hlk2 : (Instr.lookup 105 (.map (some d.mb)) (.string S) false).run Tryz.prog wr.drew = .ok (.pointer (some ⟨k', 0, none⟩)) wr.drew := by
       have h := zec (w := wr.drew) ((hts.out.rep.node n d HND.out).map hdir) S
       rw [hlk] at h
       exact h
      have hfn := zaa (o := 0) hts.out.fn rfl
      unfold funcV at hfn
      have hSz : S.size ≤ 140737488355328 := K7.out (S, k') (zdp hlk)
      have hPz : P.size ≤ 140737488355328 := by
       have h1 := HROOM5.out
       have h2 := congrArg List.length HL5.out
       have h3 := HPS.out
       unfold zdh at h2
       simp only [List.length_append] at h2
       omega
      have HIH : Hid (Calls Tryz.prog 38 #[.string (P ++ ⟨#[47]⟩ ++ S), .pointer (some ⟨k', 0, none⟩), .pointer (some ⟨b, 0, none⟩), .pointer (some ⟨wb, 0, none⟩)] wr.drew fun e w' => TxPost B b (l5 ++ T.firstTexts f P.data.toList d (k + 1)) wr.drew e w') := by
       have hlt' : k < (zan d.names).length := by rw [← HSS.out]; exact hlt
       have e1 : ss[k] = (zan d.names)[k] := by congr 1
       have h := IH.out (P ++ ⟨#[47]⟩ ++ S) k' (l5 ++ T.firstTexts f P.data.toList d k) wr.drew (HK.out _ (zdp hlk)) (hts.out.below ((Below.refl _ _).drew))
       rw [child_text hS hlk, List.append_assoc l5, e1, ← zek T f P.data.toList d hlt'] at h
       refine h ?_
       have h1 := HROOM5.out
       have h2 := firstTexts_le T f P.data.toList d (k + 1)
       rw [zek T f P.data.toList d hlt', List.length_append] at h2
       rw [List.length_append]
       omega
      clear hS hlk hdir hg hcur hlt hnm
      go_wp2_with fail
      go_region_with (go_at_call 38; refine HIH.out.mono ?_; rintro e w9 ⟨rfl, hb9, hk9, ho9⟩)
      all_goals
       have HTS9 := hid ((hts.out.below ((Below.refl _ _).drew)).next hb9 hk9 ho9)
       have HB9 := hid ((hbw.out.drew).trans hk9)
       have HO9 := hid (how.out.drew.trans ho9)
       have HNM9 := hid (HNR.out.next ho9)
       clear hb9 hk9 ho9
       go_wp2_with fail
       go_roundw
       case rel => exact ⟨k + 1, by omega, by go_num, HTS9.out, HB9.out, HO9.out, HNM9.out⟩
       case measure => simp [intOf]; omega
     ·obtain rfl : k = ss.length := by omega
      have HRES : Hid (l5 ++ T.firstTexts f P.data.toList d ss.length = l ++ T.text (f + 1) P.data.toList n) := by
       show _ = _
       rw [Tr.text_succ HND.out, HSS.out, firstTexts_all, HL5.out, List.append_assoc]
      go_wp2_with fail
      go_end0
      exact ⟨rfl, HRES.out ▸ hts.out.bld, hbw.out, how.out⟩
def TTextPost (l : List UInt8) (w : World) (e : Ending) (w' : World) : Prop := e = .returned (.string ⟨l.toArray⟩) ∧ Below w.heap.size w w'
theorem ts_new {B0 : Nat} {T : Tr} {w : World} (hR : Rep B0 w T) :
  TS B0 w.heap.size w.heap.size (w.heap.size + 1) T [] ((w.alloc (.cells #[.pointer none, .slice none 0 0] 101)).alloc (.cells #[funcV w.heap.size (w.heap.size + 1)] 102)) := by
 have hb : Below w.heap.size w ((w.alloc (.cells #[.pointer none, .slice none 0 0] 101)).alloc (.cells #[funcV w.heap.size (w.heap.size + 1)] 102)) := zar w _ _
 have h1 : (w.alloc (.cells #[.pointer none, .slice none 0 0] 101)).heap.size = w.heap.size + 1 := by simp
 have h2 : w.heap.size + 1 ≠ w.heap.size := by omega
 have hx := heap_alloc_new (w.alloc (.cells #[.pointer none, .slice none 0 0] 101)) (.cells #[funcV w.heap.size (w.heap.size + 1)] 102)
 rw [h1] at hx
 exact ⟨hR.below hb, fun b hf => hR.lt hf, hb.size, bld_others (bld_new w) (zad _ _), Nat.le_succ _, h2, hx⟩
set_option maxRecDepth 100000 in
set_option maxHeartbeats 4000000 in
theorem tree_text {B0 : Nat} {T : Tr} (w : World) (hR : Rep B0 w T) (hok : TxOk T) (f : Nat) (hd : T.deep f T.root) (hlen : (T.text f [] T.root).length ≤ 140737488355328) :
  Calls Tryz.prog 13 #[.pointer (some ⟨T.tb, 0, none⟩)] w fun e w' => TTextPost (T.text f [] T.root) w e w' := by
 have hts := ts_new hR
 have HB0 : Hid (Below w.heap.size w ((w.alloc (.cells #[.pointer none, .slice none 0 0] 101)).alloc (.cells #[funcV w.heap.size (w.heap.size + 1)] 102))) := zar w _ _
 have HTS := hid hts
 have HOK := hid hok
 have HD := hid hd
 have HLEN := hid hlen
 clear hok hd hlen hR hts
 obtain ⟨L, hL⟩ : ∃ L, L = T.text f [] T.root := ⟨_, rfl⟩
 have HL := hid hL
 show Calls _ _ _ _ fun e w' => TTextPost (T.text f [] T.root) w e w'
 rw [← hL]
 clear hL
 go_enter Tryz.func13, Tryz.ntmps13
 go_wp2_with fail
 generalize hW : ((w.alloc (.cells #[.pointer none, .slice none 0 0] 101)).alloc (.cells #[.func (.func 38) #[] #[.pointer (some ⟨w.heap.size, 0, none⟩), .pointer (some ⟨w.heap.size + 1, 0, none⟩)]] 102)) = W
 have HTW : Hid (TS B0 w.heap.size w.heap.size (w.heap.size + 1) T [] W) := by rw [← hW]; exact HTS.out
 have HBW : Hid (Below w.heap.size w W) := by rw [← hW]; exact HB0.out
 clear hW HTS HB0
 have g0 : W.cell? ⟨T.tb, 0, none⟩ = some (.pointer (some ⟨T.root, 0, none⟩)) := zaa HTW.out.rep.tree rfl
 have g1 : W.cell? ⟨w.heap.size + 1, 0, none⟩ = some (.func (.func 38) #[] #[.pointer (some ⟨w.heap.size, 0, none⟩), .pointer (some ⟨w.heap.size + 1, 0, none⟩)]) := zaa HTW.out.fn rfl
 have HX : Hid (Calls Tryz.prog 38 #[.string ⟨#[]⟩, .pointer (some ⟨T.root, 0, none⟩), .pointer (some ⟨w.heap.size, 0, none⟩), .pointer (some ⟨w.heap.size + 1, 0, none⟩)] W.drew fun e w' => TxPost w.heap.size w.heap.size L W.drew e w') := by
  rw [HL.out]
  exact text_walk HOK.out f ⟨#[]⟩ T.root [] W.drew HD.out (HTW.out.below ((Below.refl _ _).drew)) (by simpa using HLEN.out)
 go_wp2_with fail
 go_region_with (go_at_call 38; refine HX.out.mono ?_; rintro e w2 ⟨rfl, hb2, hk2, ho2⟩)
 all_goals
  have HS := hid (Tryz.Builder_String_any w.heap.size w.heap.size L w2 hb2 (HBW.out.drew.trans hk2).size)
  have HB2 := hid (HBW.out.drew.trans hk2)
  clear hb2 hk2 ho2
  go_wp2_with fail
  refine HS.out.mono ?_
  rintro e w3 ⟨rfl, hb3⟩
  have HB3 := hid (HB2.out.trans hb3)
  clear hb3 HS HB2
  go_wp2_with fail
  go_ret
  exact ⟨rfl, HB3.out⟩
end Go.Proofs.YteeeaeiafdgpkaaGreatDoor
