/-
  tree.Clean: its contract.
-/
import Derived.Test.YtiejfbkbjahcgaaGreatDoorSpec
import Derived.Test.YtiejfbkbjahcgaaGreatDoorShelf
import Derived.Test.YtiejfbkbjahcgaaGreatDoorFault
import Derived.Handy
import Derived.Lib.ReplaceLaws
namespace Go.Proofs.YtiejfbkbjahcgaaGreatDoor
open Go Go.RowKit

/-- An owned row, its last element taken off. -/
theorem ownsRow_less {w : World} {base : Nat} {e : TypeId} {g cap n : Nat} {xs : List Value} (h : w.ownsRow base e 1 (.slice (some ⟨g, 0, none⟩) n cap) n xs) (m : Nat) (hm : m ≤ n) :
    w.ownsRow base e 1 (.slice (some ⟨g, 0, none⟩) m cap) m (xs.take m) := by
  obtain ⟨h1, h2⟩ := h
  refine ⟨by simp at h1 ⊢; omega, ?_⟩
  rcases h2 with ⟨h3, _⟩ | ⟨g', cap', cur, h3, r1, r2, r3, r4, r5, r6⟩
  · cases h3
  · simp only [Value.slice.injEq, Option.some.injEq, Addr.mk.injEq] at h3
    obtain ⟨⟨rfl, _⟩, _, rfl⟩ := h3
    exact .inr ⟨g, cap, cur, rfl, r1, r2, by omega, r4, r5, by rw [← r6]; simp [List.take_take, Nat.min_eq_left hm]⟩

/-- A slice of strings that reads as l, in a block from base on. -/
def StrsAt (w : World) (base : Nat) (v : Value) (l : List ByteArray) : Prop :=
  (l = [] ∧ ∃ a c, v = .slice a 0 c) ∨
  ∃ g cap cur, v = .slice (some ⟨g, 0, none⟩) l.length cap ∧ l.length ≤ cap ∧ base ≤ g ∧ w.heap[g]? = some (.cells cur 9 (0, 0)) ∧ ∀ j (h : j < l.length), cur[j]? = some (.string l[j])

theorem StrsAt.of_owns {w : World} {base b : Nat} {v : Value} {l : List ByteArray} (h : w.ownsRow base 9 1 v l.length (l.map .string)) (hb : b ≤ base) : StrsAt w b v l := by
  rcases h.2 with ⟨rfl, h0⟩ | ⟨g, cap, cur, rfl, r1, r2, r3, _, _, r6⟩
  · exact .inl ⟨List.eq_nil_of_length_eq_zero h0, _, _, rfl⟩
  · refine .inr ⟨g, cap, cur, rfl, r3, by omega, r2, fun j hj => ?_⟩
    have := congrArg (fun x => x[j]?) r6
    simp only [List.getElem?_take, Nat.mul_one, hj, if_true, Array.getElem?_toList, List.getElem?_map, List.getElem?_eq_getElem hj, Option.map_some] at this
    exact this

theorem StrsAt.cap {w : World} {base : Nat} {a : Option Addr} {n c c' : Nat} {l : List ByteArray} (h : StrsAt w base (.slice a n c) l) (hc : n ≤ c') : StrsAt w base (.slice a n c') l := by
  rcases h with ⟨h0, a', c0, h1⟩ | ⟨g, cap, cur, h1, _, r⟩
  · simp only [Value.slice.injEq] at h1
    obtain ⟨rfl, rfl, rfl⟩ := h1
    exact .inl ⟨h0, _, _, rfl⟩
  · simp only [Value.slice.injEq] at h1
    obtain ⟨rfl, rfl, rfl⟩ := h1
    exact .inr ⟨g, c', cur, rfl, hc, r⟩

theorem StrsAt.form {w : World} {base : Nat} {v : Value} {l : List ByteArray} (h : StrsAt w base v l) : ∃ a c, v = .slice a l.length c ∧ l.length ≤ c ∧ ∀ j (hj : j < l.length), ∃ g, a = some ⟨g, 0, none⟩ ∧ base ≤ g ∧ w.cell? ⟨g, j, none⟩ = some (.string l[j]) := by
  rcases h with ⟨rfl, a, c, rfl⟩ | ⟨g, cap, cur, rfl, r0, r1, r2, r3⟩
  · exact ⟨a, c, rfl, Nat.zero_le _, fun j hj => by simp at hj⟩
  · exact ⟨_, cap, rfl, r0, fun j hj => ⟨g, rfl, r1, cell_of r2 (r3 j hj)⟩⟩

theorem StrsAt.kept {w w' : World} {base : Nat} {v : Value} {l : List ByteArray} {F : Nat → Prop} (h : StrsAt w base v l) (k : Kept F w w') (hF : ∀ b, F b → b < base) : StrsAt w' base v l := by
  rcases h with h | ⟨g, cap, cur, rfl, r0, r1, r2, r3⟩
  · exact .inl h
  · exact .inr ⟨g, cap, cur, rfl, r0, r1, (k.block g (lt_of_heap r2) (fun hf => by have := hF g hf; omega)).trans r2, r3⟩

theorem long_false {l : List ByteArray} (h : ∀ j (hj : j < l.length), l[j].size ≤ 64) : long l = false := by
  unfold long
  rw [List.any_eq_false]
  intro x hx
  obtain ⟨j, hj, rfl⟩ := List.getElem_of_mem hx
  have := h j hj
  simp; omega
theorem long_true {l : List ByteArray} {j : Nat} (hj : j < l.length) (h : 64 < l[j].size) : long l = true := by
  unfold long
  rw [List.any_eq_true]
  exact ⟨l[j], List.getElem_mem hj, by simpa using h⟩

/-- What Clean leaves. -/
def CleanPost (w : World) (l : List ByteArray) (e : Ending) (w' : World) : Prop :=
  ∃ v, e = .returned (.tuple (if long l then #[.slice none 0 0, .bool false] else #[v, .bool true])) ∧ StrsAt w' w.heap.size v l ∧ Below w.heap.size w w'

theorem infoStr : (Tryz.prog.info? 9).map (fun i => (i.zero, i.size, i.bytes)) = some (some (.string ByteArray.empty), 1, 16) := by kernel_rfl

/-- The world in which Split has laid its pieces. -/
def splitW (w : World) (xs : List ByteArray) : World := w.alloc (.cells (xs.map .string).toArray 9)

set_option maxRecDepth 100000 in
set_option maxHeartbeats 2000000 in
theorem clean_all (s : ByteArray) (w : World) (h0 : 0 < s.size) (h1 : s.size ≤ 256)
    (hi : Calls Tryz.prog 136 #[.string s, .int .u8 0] w fun e w' => e = .returned (.int .i64 (-1)) ∧ w' = w) (xs : List ByteArray) (hxl : xs.length ≤ 300)
    (hs : Calls Tryz.prog 137 #[.string s, .string ⟨#[47]⟩] w fun e w' => e = .returned (.slice (some ⟨w.heap.size, 0, none⟩) xs.length xs.length) ∧ w' = splitW w xs) :
    Calls Tryz.prog 110 #[.string s] w fun e w' => CleanPost w (fold xs) e w' := by
  obtain ⟨i0, hi9, hz0, hz1, hz2⟩ := info_parts infoStr
  go_enter Tryz.func110, Tryz.ntmps110
  go_wp2_with fail
  refine hi.mono ?_
  rintro e w' ⟨rfl, rfl⟩
  go_wp2_with fail
  refine hs.mono ?_
  rintro e w1 ⟨rfl, rfl⟩
  have HW : Hid (Below (w'.heap.size + 1) (splitW w' xs) (splitW w' xs)) := Below.refl _ _
  have HB : Hid (∀ j (h : j < xs.length), (splitW w' xs).cell? ⟨w'.heap.size, j, none⟩ = some (.string xs[j])) := by
    intro j hj
    unfold splitW
    rw [World.cell?_alloc_at _ _ _ _ rfl]
    simp [hj]
  have HS : Hid ((splitW w' xs).heap.size = w'.heap.size + 1) := by show (splitW w' xs).heap.size = _; simp [splitW]
  have HK : Hid (Below w'.heap.size w' (splitW w' xs)) := (Below.refl _ _).alloc (Nat.le_refl _) _
  clear hs hi
  generalize splitW w' xs = ws at *
  go_wp2_with fail
  go_loopw [4, 25] (fun out idx wr => ∃ k : Nat, k ≤ xs.length ∧ idx = .int .i64 k ∧ Hid (wr.ownsRow (w'.heap.size+1) 9 1 out (fold (xs.take k)).length ((fold (xs.take k)).map .string)) ∧ Below (w'.heap.size + 1) ws wr) (fun _ idx _ => xs.length - (intOf idx).toNat)
  case atStart => exact ⟨0, Nat.zero_le _, rfl, World.ownsRow_nil _ _ _ _, HW.out⟩
  case round =>
    obtain ⟨k, hk, rfl, hown, hb⟩ := hrel
    by_cases hlt : k < xs.length
    · have hcell : wr.cell? ⟨w'.heap.size, k, none⟩ = some (.string xs[k]) := (hb.cell (p := ⟨w'.heap.size, k, none⟩) (by simp)).trans (HB.out k hlt)
      have HT : Hid (fold (xs.take (k + 1)) = step (fold (xs.take k)) xs[k]) := by
        show fold (xs.take (k + 1)) = step (fold (xs.take k)) xs[k]
        rw [List.take_succ_eq_append_getElem hlt, fold_snoc]
      have hfl : (fold (xs.take k)).length ≤ 300 := Nat.le_trans (fold_length _) (by simp; omega)
      have HSZ : Hid (w'.heap.size + 1 ≤ wr.heap.size) := by show _ ≤ _; have := hb.size; rw [HS.out] at this; exact this
      generalize xs[k] = x at *
      generalize fold (xs.take k) = ys at *
      by_cases hA : x.toList.isEmpty = true
      · have HE : Hid (step ys x = ys) := step_empty hA
        go_wp2_with fail
        go_roundw
        case rel => exact ⟨k + 1, by omega, by go_num, by show wr.ownsRow _ _ _ _ _ _; rw [HT.out, HE.out]; exact hown.out, hb⟩
        case measure => simp [intOf]; omega
      · have hA' : x.toList.isEmpty = false := by simpa using hA
        clear hA
        by_cases hB : (x.toList == [46]) = true
        · have HE : Hid (step ys x = ys) := step_dot hA' hB
          go_wp2_with fail
          go_roundw
          case rel => exact ⟨k + 1, by omega, by go_num, by show wr.ownsRow _ _ _ _ _ _; rw [HT.out, HE.out]; exact hown.out, hb⟩
          case measure => simp [intOf]; omega
        · have hB' : (x.toList == [46]) = false := by simpa using hB
          clear hB
          by_cases hC : (x.toList == [46, 46]) = true
          · have HE : Hid (step ys x = ys.dropLast) := step_dots hA' hB' hC
            rcases hown.out.2 with ⟨rfl, hn0⟩ | ⟨g, cap, cur, rfl, q1, q2, q3, q4, q5, q6⟩
            · have HY : Hid (ys = []) := List.eq_nil_of_length_eq_zero hn0
              clear hn0
              go_wp2_with fail
              go_roundw
              case rel => exact ⟨k + 1, by omega, by go_num, by show wr.ownsRow _ _ _ _ _ _; rw [HT.out, HE.out, HY.out]; exact World.ownsRow_nil _ _ _ _, hb⟩
              case measure => simp [intOf]; omega
            · have HO : Hid (∀ m, m ≤ ys.length → wr.ownsRow (w'.heap.size + 1) 9 1 (.slice (some ⟨g, 0, none⟩) m cap) m ((ys.map Value.string).take m)) := fun m hm => ownsRow_less hown.out m hm
              clear q1 q2 q5 q6
              go_wp2_with fail
              go_roundw
              case rel =>
                refine ⟨k + 1, by omega, by go_num, ?_, hb⟩
                show wr.ownsRow _ _ _ _ _ _
                have hm : (max 0 ((ys.length : Int) - 1)).toNat = ys.length - 1 := by omega
                rw [HT.out, HE.out, hm, List.map_dropLast, List.length_dropLast, List.dropLast_eq_take, List.length_map]
                exact HO.out _ (by omega)
              case measure => simp [intOf]; omega
          · have hC' : (x.toList == [46, 46]) = false := by simpa using hC
            clear hC
            have HE : Hid (step ys x = ys ++ [x]) := step_more hA' hB' hC'
            go_wp2_with (at_builtin; refine wpList_append_own _ rfl _ _ 40 rfl (w'.heap.size + 1) 9 i0 (.string ByteArray.empty) 1 16 Tryz.underlying40 hi9 hz0 hz1 hz2 rfl (by decide) _ _ _ rfl (hown.out.alloc _) ⟨wr.heap.size, 0, none⟩ 1 1 [.string x] rfl rfl ?c1 ?c2 ?c3 ?c4 ?c5 ?_)
            case c1 =>
              intro j u hu
              cases j with
              | zero => simp at hu; subst hu; simp [Addr.add]
              | succ j => simp at hu
            case c2 => intro u hu; simp at hu; subst hu; rfl
            case c3 => unfold maxLen; omega
            case c4 => omega
            case c5 => have := HSZ.out; simp; omega
            intro v' w2 hown2 hgrow _
            have HO : Hid (w2.ownsRow (w'.heap.size + 1) 9 1 v' (ys.length + 1) (List.map Value.string ys ++ [Value.string x])) := hown2
            have HN : Hid (Below (w'.heap.size + 1) ws w2) := by
              have h1 : Below (w'.heap.size + 1) ws (wr.alloc (.cells #[.string x] 9)) := hb.alloc HSZ.out _
              refine h1.grown hgrow (by have := HSZ.out; simp; omega) (fun q hq => (hown.out.lt q hq).1)
            clear hown2 hgrow
            go_wp2_with fail
            go_roundw
            case rel =>
              refine ⟨k + 1, by omega, by go_num, ?_, HN.out⟩
              show w2.ownsRow _ _ _ _ _ _
              rw [HT.out, HE.out, List.length_append, List.map_append]
              exact HO.out
            case measure => simp [intOf]; omega
    · have hkx : k = xs.length := by omega
      subst hkx
      have HT : Hid (fold (xs.take xs.length) = fold xs) := by show fold _ = _; rw [List.take_length]
      have HO : Hid (StrsAt wr w'.heap.size u4 (fold xs)) := by
        have h := hown.out
        rw [HT.out] at h
        exact StrsAt.of_owns h (by omega)
      have HBW : Hid (Below w'.heap.size w' wr) := HK.out.trans (hb.mono (by omega))
      have hfl : (fold xs).length ≤ 300 := Nat.le_trans (fold_length _) hxl
      clear hown hb HT HW HB HS HK
      generalize hys : fold xs = ys at *
      have HYS : Hid (fold xs = ys) := hys
      clear hys
      obtain ⟨av, cv, hv, hlc, hcells⟩ := HO.out.form
      subst hv
      have HC : Hid (∀ j (hj : j < ys.length), ∃ g, av = some ⟨g, 0, none⟩ ∧ w'.heap.size ≤ g ∧ wr.cell? ⟨g, j, none⟩ = some (.string ys[j])) := hcells
      clear hcells
      go_wp2_with fail
      go_loop [48] (fun idx => ∃ k : Nat, k ≤ ys.length ∧ idx = .int .i64 k ∧ Hid (∀ j (hj : j < ys.length), j < k → ys[j].size ≤ 64)) (fun idx => ys.length - (intOf idx).toNat)
      case atStart => exact ⟨0, Nat.zero_le _, rfl, fun j _ h => by omega⟩
      case round =>
        obtain ⟨k2, hk2, rfl, hsm⟩ := hrel
        by_cases hlt2 : k2 < ys.length
        · obtain ⟨g, hg, _, hcell⟩ := HC.out k2 hlt2
          subst hg
          have HX : Hid (∀ j (hj : j < ys.length), j < k2 + 1 → ys[k2].size ≤ 64 → ys[j].size ≤ 64) := by
            intro j hj h1 h2
            by_cases hjk : j < k2
            · exact hsm.out j hj hjk
            · obtain rfl : j = k2 := by omega
              exact h2
          have HL : Hid (64 < ys[k2].size → long ys = true) := fun h => long_true hlt2 h
          generalize ys[k2] = x at *
          by_cases hx : 64 < x.size
          · have HLL : Hid (long ys = true) := HL.out hx
            go_wp2_with fail
            go_ret2
            rw [HYS.out]
            refine ⟨.slice (some ⟨g, 0, none⟩) ys.length cv, ?_, HO.out, HBW.out⟩
            rw [HLL.out]; rfl
          · have hx' : x.size ≤ 64 := by omega
            go_wp2_with fail
            go_round
            case rel => exact ⟨k2 + 1, by omega, by go_num, fun j hj h1 => HX.out j hj h1 hx'⟩
            case measure => simp [intOf]; omega
        · have HLL : Hid (long ys = false) := long_false fun j hj => hsm.out j hj (by omega)
          go_wp2
          go_ret2
          rw [HYS.out]
          refine ⟨.slice av ys.length ys.length, ?_, HO.out.cap (Nat.le_refl _), HBW.out⟩
          rw [HLL.out]; rfl

theorem pieces_len (s : ByteArray) : (pieces s).length = Lib.countB s slash + 1 := by
  have h : ∀ (k : Nat) (s : ByteArray), Lib.countB s slash = k → (Lib.splitB slash 0 k s).length = k + 1 := by
    intro k
    induction k with
    | zero => intro s _; simp [Lib.splitB]
    | succ k ih =>
      intro s hs
      unfold Lib.splitB
      split
      · rename_i hm
        rw [Lib.countB_miss s slash (by simpa using hm)] at hs
        cases hs
      · rename_i hm
        have hge : ∃ i : Nat, Lib.indexB s slash = i := by
          have h1 := Lib.index_ge s.data.toList slash.data.toList
          have h2 : Lib.indexB s slash ≠ -1 := by simpa using hm
          have h3 : Lib.indexB s slash = Lib.index s.data.toList slash.data.toList := rfl
          exact ⟨(Lib.indexB s slash).toNat, by omega⟩
        obtain ⟨i, hi⟩ := hge
        rw [Lib.countB_hit s slash i (by decide) hi] at hs
        have e : (Lib.indexB s slash).toNat = i := by omega
        rw [List.length_cons, e, ih _ (by omega)]
  exact h _ s rfl

theorem pieces_le (s : ByteArray) : (pieces s).length ≤ s.size + 1 := by
  rw [pieces_len]
  have := Lib.countB_mul_le slash (by decide) s.size s (Nat.le_refl _)
  have e : slash.size = 1 := rfl
  rw [e] at this
  omega

/-- tree.Clean, a path within the bounds. -/
theorem clean_good {m : Int} (s : ByteArray) (w : World) (hm : w.cell? ⟨23, 0, none⟩ = some (.int .i64 m)) (hg : badPath s = false) :
    Calls Tryz.prog 110 #[.string s] w fun e w' => CleanPost w (fold (pieces s)) e w' := by
  unfold badPath at hg
  simp only [Bool.or_eq_false_iff, decide_eq_false_iff_not, bne_eq_false_iff_eq] at hg
  obtain ⟨⟨h0, h1⟩, h2⟩ := hg
  refine clean_all s w (by omega) (by omega) ?_ (pieces s) (by have := pieces_le s; omega) ?_
  · refine (Tryz.strings_IndexByte s 0 w).mono ?_
    rintro e w' ⟨rfl, rfl⟩
    refine ⟨?_, rfl⟩
    have e : Int.toNat 0 = 0 := rfl
    rw [e]
    rw [show (Nat.toUInt8 0) = (0 : UInt8) from rfl, h2]
  · refine (Tryz.strings_Split s slash m w (by omega) hm (by decide)).mono ?_
    rintro e w' ⟨rfl, rfl⟩
    rw [pieces_len]
    exact ⟨rfl, rfl⟩

set_option maxHeartbeats 1000000 in
/-- .. and one out of them. -/
theorem clean_bad (s : ByteArray) (w : World) (hsz : s.size ≤ 9223372036854775807) (hg : badPath s = true) :
    Calls Tryz.prog 110 #[.string s] w fun e w' => e = .returned (.tuple #[.slice none 0 0, .bool false]) ∧ w' = w := by
  unfold badPath at hg
  simp only [Bool.or_eq_true, decide_eq_true_eq, bne_iff_ne] at hg
  by_cases h0 : s.size < 1
  · have hz : s.size = 0 := by omega
    go_enter Tryz.func110, Tryz.ntmps110
    go_wp2_with fail
    go_ret2
    exact ⟨rfl, rfl⟩
  by_cases h1 : 256 < s.size
  · clear hg
    go_enter Tryz.func110, Tryz.ntmps110
    go_wp2_with fail
    go_ret2
    exact ⟨rfl, rfl⟩
  have hne : Lib.indexByte s.data.toList 0 ≠ -1 := by
    rcases hg with (h | h) | h
    · exact absurd h h0
    · exact absurd h h1
    · exact h
  have hge := Lib.indexByte_ge s.data.toList 0
  have hib : ∀ w, Calls Tryz.prog 136 #[.string s, .int .u8 0] w fun e w' => e = .returned (.int .i64 (Lib.indexByte s.data.toList 0)) ∧ w' = w := fun w => Tryz.strings_IndexByte s 0 w
  generalize Lib.indexByte s.data.toList 0 = i at *
  have hi0 : 0 ≤ i := by omega
  have h0' : 1 ≤ s.size := by omega
  clear hg hne hge h0
  go_enter Tryz.func110, Tryz.ntmps110
  go_wp2_with fail
  refine (hib _).mono ?_
  rintro e w' ⟨rfl, rfl⟩
  clear hib
  go_wp2_with fail
  go_ret2
  exact ⟨rfl, rfl⟩
end Go.Proofs.YtiejfbkbjahcgaaGreatDoor
