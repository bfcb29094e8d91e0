/-
  (*Tree).put, a file that there was: its contract.
-/
import Derived.Test.YtiejfbkbjahcgaaGreatDoorPutNew
namespace Go.Proofs.YtiejfbkbjahcgaaGreatDoor
open Go Go.RowKit

/-- What put leaves where it writes a file that there was. -/
def PutOld (B : Nat) (w : World) (T : Tr) (k : Nat) (d : Nd) (b : List UInt8) (e : Ending) (w' : World) : Prop :=
  ∃ bv, e = .returned (.tuple #[.pointer (some ⟨k, 0, none⟩), .nilIface]) ∧ Rep B w' (T.setData k d bv b) ∧ Kept T.foot w w' ∧ (∀ x, (T.setData k d bv b).foot x → T.foot x ∨ w.heap.size ≤ x)

/-- The head of a row of bytes is a source. -/
theorem src_take {w : World} {base : Nat} {a : Option Addr} {c : Nat} {l : List UInt8} (h : w.ownsRow base 5 1 (.slice a l.length c) l.length (u8s l)) (m : Nat) (hm : m ≤ l.length) :
    Src w (.slice a m c) (l.take m) := by
  rcases Src.of_owns h with ⟨h1, rfl⟩ | ⟨ad, c', h1, h2, h3⟩
  · simp only [Value.slice.injEq] at h1
    obtain ⟨rfl, _, rfl⟩ := h1
    have : m = 0 := by simpa using hm
    subst this
    exact .inl ⟨rfl, rfl⟩
  · simp only [Value.slice.injEq] at h1
    obtain ⟨rfl, _, rfl⟩ := h1
    have e : (l.take m).length = m := by simp; omega
    refine .inr ⟨ad, c, by rw [e], by omega, fun j hj => ?_⟩
    rw [List.getElem_take]
    exact h3 j (by omega)

set_option maxRecDepth 100000 in
set_option maxHeartbeats 4000000 in
theorem put_old {E : Nat → Addr} {B : Nat} {T : Tr} (p : ByteArray) (bv : Value) (b : List UInt8) (add : Bool) (w : World) (hE : Ctx E B w) (hR : Rep B w T) (hsz : p.size ≤ 9223372036854775807) (s : Spot) (hf : T.find p = .ok s)
    (hck0 : 0 ≤ T.clock) (hck : T.clock ≤ 1152921504606846976) (hb : Src w bv b) (hbf : ∀ x, bv.ownBlock = some x → ¬ T.foot x)
    (k : Nat) (d : Nd) (hk : s.n = some k) (hd : T.nd k = some d) (hdir : d.dir = false) (hdl : d.data.length ≤ 65536) (old : Nat) (hold : old = if add then d.data.length else 0) (hbl : old + b.length ≤ 65536) :
    Calls Tryz.prog 75 #[.pointer (some ⟨T.tb, 0, none⟩), .string p, bv, .bool add] w fun e w' => PutOld B w T k d (d.data.take old ++ b) e w' := by
  have HF := find_any p w hE hR hsz
  rw [hf] at HF
  have HC : Hid (Calls Tryz.prog 73 #[.pointer (some ⟨T.tb, 0, none⟩), .string p] w fun e w' => FindPost E w (.ok s) e w') := HF
  have HE : Hid (Ctx E B w) := hE
  have HR : Hid (Rep B w T) := hR
  have HK : Hid (s.n = some k) := hk
  have HD : Hid (T.nd k = some d) := hd
  have HDIR : Hid (d.dir = false) := hdir
  have HS : Hid (Src w bv b) := hb
  have HSF : Hid (∀ x, bv.ownBlock = some x → ¬ T.foot x) := hbf
  have HOLD : Hid (old = if add then d.data.length else 0) := hold
  have hold' : old ≤ d.data.length := by rw [hold]; split <;> omega
  have hbv : ∃ ba bc, bv = .slice ba b.length bc := by
    rcases hb with ⟨h1, h2⟩ | ⟨ad, c, h1, _⟩
    · exact ⟨none, 0, by rw [h1, h2]; rfl⟩
    · exact ⟨_, _, h1⟩
  obtain ⟨ba, bc, rfl⟩ := hbv
  clear HF hE hR hf hk hd hdir hb hbf hold
  go_enter Tryz.func75, Tryz.ntmps75
  go_wp2_with fail
  refine HC.out.mono ?_
  rintro e w1 ⟨hb, rfl⟩
  have HB : Hid (Below w.heap.size w w1) := hb
  have HRP : Hid (Rep B w1 T) := HR.out.below HB.out
  clear hb
  obtain ⟨inn, nm, nn⟩ := s
  obtain rfl : nn = some k := HK.out
  simp only [spotV, ptrV_some]
  have hc0 : w1.cell? ⟨k, 0, none⟩ = some (.bool false) := by rw [← HDIR.out]; exact cell_of (HRP.out.node k d HD.out).cells rfl
  have hc1 : w1.cell? ⟨k, 1, none⟩ = some d.bv := cell_of (HRP.out.node k d HD.out).cells rfl
  obtain ⟨av, cv, hbv⟩ := owns_form (HRP.out.node k d HD.out).row
  rw [hbv] at hc1
  have HBV : Hid (d.bv = .slice av d.data.length cv) := hbv
  clear hbv
  have hkl : k < w1.heap.size := HRP.out.node_lt HD.out
  unfold ptrV
  generalize inn.map (fun b => (⟨b, 0, none⟩ : Addr)) = ia
  generalize hdlen : d.data.length = dl at *
  have HDL : Hid (d.data.length = dl) := hdlen
  clear hdlen
  obtain ⟨bl, hbl'⟩ : ∃ n, n = b.length := ⟨_, rfl⟩
  cases add with
  | false =>
    obtain rfl : old = 0 := by have := HOLD.out; simpa using this
    go_wp2_with fail
    have HT3 : Hid (((w1.alloc (.cells #[.pointer ia, .string nm, .pointer (some ⟨k, 0, none⟩)] 141)).alloc (.cells #[.pointer (some ⟨k, 0, none⟩)] 128)).heap[T.tb]? = some (.cells #[ptrV (some T.root), .int .i64 T.clock, .int .i64 T.count] 139 (0, 0))) := by
      show _ = _
      have := lt_of_heap HRP.out.tree
      rw [Below.heap_alloc _ _ _ (by simp; omega), Below.heap_alloc _ _ _ this]
      exact HRP.out.tree
    have HN3 : Hid (((w1.alloc (.cells #[.pointer ia, .string nm, .pointer (some ⟨k, 0, none⟩)] 141)).alloc (.cells #[.pointer (some ⟨k, 0, none⟩)] 128)).heap[k]? = some (.cells #[.bool d.dir, d.bv, mapV d, .int .i64 d.links, .int .i64 d.tick] 132 (0, 0))) := by
      show _ = _
      rw [Below.heap_alloc _ _ _ (by simp; omega), Below.heap_alloc _ _ _ hkl]
      exact (HRP.out.node k d HD.out).cells
    have HS3 : Hid (((w1.alloc (.cells #[.pointer ia, .string nm, .pointer (some ⟨k, 0, none⟩)] 141)).alloc (.cells #[.pointer (some ⟨k, 0, none⟩)] 128)).heap[w1.heap.size + 1]? = some (.cells #[.pointer (some ⟨k, 0, none⟩)] 128 (0, 0))) := by
      have h := heap_alloc_new (w1.alloc (.cells #[.pointer ia, .string nm, .pointer (some ⟨k, 0, none⟩)] 141)) (.cells #[.pointer (some ⟨k, 0, none⟩)] 128)
      have e : (w1.alloc (.cells #[.pointer ia, .string nm, .pointer (some ⟨k, 0, none⟩)] 141)).heap.size = w1.heap.size + 1 := by simp
      rw [e] at h
      exact h
    have HB3 : Hid (Below w.heap.size w ((w1.alloc (.cells #[.pointer ia, .string nm, .pointer (some ⟨k, 0, none⟩)] 141)).alloc (.cells #[.pointer (some ⟨k, 0, none⟩)] 128))) :=
      below_trans (below_trans HB.out (below_alloc _ _)) (below_alloc _ _)
    refine (tick1 hck0 hck HT3.out HN3.out HS3.out).mono ?_
    intro e w4 hp
    obtain ⟨rfl, hT4, hN4, hK4⟩ := hp
    have HT4 : Hid (w4.heap[T.tb]? = some (.cells #[ptrV (some T.root), .int .i64 (T.clock + 1), .int .i64 T.count] 139 (0, 0))) := hT4
    have HN4 : Hid (w4.heap[k]? = some (.cells #[.bool d.dir, d.bv, mapV d, .int .i64 d.links, .int .i64 (T.clock + 1)] 132 (0, 0))) := hN4
    have HK4 : Hid (Kept (fun x => x = T.tb ∨ x = k) w w4) := (Kept.of_below HB3.out (fun x => x = T.tb ∨ x = k)).trans hK4 (fun x hx => .inl hx)
    have hNodeF : ∀ r, d.bv.ownBlock = some r → ¬ (r = T.tb ∨ r = k) := by
      intro r hr
      obtain ⟨c, hc⟩ := (HR.out.node k d HD.out).row_block hr
      rintro (h | h)
      · exact cells_ne_type hc HR.out.tree (by decide) h
      · exact cells_ne_type hc (HR.out.node k d HD.out).cells (by decide) h
    have HRow4 : Hid (w4.ownsRow B 5 1 d.bv d.data.length (u8s d.data)) := ownsRow_kept (HR.out.node k d HD.out).row HK4.out hNodeF
    have HS4 : Hid (Src w4 (.slice ba b.length bc) b) := HS.out.kept HK4.out (fun x hx hf => HSF.out x hx (by
      rcases hf with rfl | rfl
      · exact .inl rfl
      · exact .inr (.inl ⟨d, HD.out⟩)))
    have HT0 : Hid (Src w4 (.slice av 0 cv) (d.data.take 0)) := by
      have h := HRow4.out
      rw [HBV.out, ← HDL.out] at h
      exact src_take h 0 (by rw [HDL.out]; omega)
    have HTL : Hid ((d.data.take 0).length = 0) := by show _ = _; rw [List.length_take, HDL.out]; omega
    generalize hhd : d.data.take 0 = hd at *
    have HHD : Hid (d.data.take 0 = hd) := hhd
    clear hhd
    have hcv : dl ≤ cv := by
      have h := HRow4.out.2
      rw [HBV.out] at h
      rcases h with ⟨h1, h2⟩ | ⟨g, cap, cur, h1, _, _, h2, _⟩
      · simp only [Value.slice.injEq] at h1; omega
      · simp only [Value.slice.injEq] at h1
        obtain ⟨_, _, rfl⟩ := h1
        rw [HDL.out] at h2
        exact h2
    clear hT4 hN4 hK4 HT3 HN3 HS3 HB3 hNodeF hc0 hc1
    have h41 : w4.cell? ⟨k, 1, none⟩ = some (.slice av dl cv) := by
      have h1 : w4.cell? ⟨k, 1, none⟩ = some d.bv := cell_of HN4.out rfl
      rw [h1, HBV.out]
    have f4 : ∀ o, w4.frozen? ⟨k, o, none⟩ = false := fun o => free_of HN4.out o
    go_wp2_with (at_builtin; refine wpList_append_src rfl _ _ rfl w.heap.size (.slice none 0 0) 0 [] rfl (World.ownsRow_nil _ _ _ _) (.slice av 0 cv) hd rfl HT0.out ?hlen HK4.out.size ?_)
    case hlen => rw [HTL.out]; omega
    intro v5 w5 hown5 hgrow5
    have HO5 : Hid (w5.ownsRow w.heap.size 5 1 v5 0 (u8s hd)) := by
      show w5.ownsRow _ _ _ _ _ _
      have h := hown5
      rw [HTL.out] at h
      simpa using h
    have HG5 : Hid (Below w4.heap.size w4 w5) := ⟨hgrow5.os, hgrow5.tape, hgrow5.output, hgrow5.size, fun q hq => hgrow5.block q hq (by simp [Value.ownBlock])⟩
    have HS5 : Hid (Src w5 (.slice ba b.length bc) b) := HS4.out.kept (Kept.of_below HG5.out (fun _ => False)) (fun _ _ hf => hf)
    have HK5 : Hid (w.heap.size ≤ w5.heap.size) := Nat.le_trans HK4.out.size HG5.out.size
    clear hown5 hgrow5
    go_wp2_with (at_builtin; refine wpList_append_src rfl _ _ rfl w.heap.size v5 0 (u8s hd) rfl HO5.out (.slice ba b.length bc) b rfl HS5.out (by omega) HK5.out ?_)
    intro v6 w6 hown6 hgrow6
    have HO6 : Hid (w6.ownsRow w.heap.size 5 1 v6 (hd ++ b).length (u8s (hd ++ b))) := by
      show w6.ownsRow _ _ _ _ _ _
      rw [List.length_append, HTL.out, u8s_append]
      simpa using hown6
    have HK6 : Hid (Kept (fun x => x = T.tb ∨ x = k) w w6) := (HK4.out.then_below HG5.out).grown hgrow6 (fun r hr => .inr (HO5.out.lt r hr).1)
    have HTK : Hid (T.tb < w.heap.size ∧ k < w.heap.size) := ⟨HR.out.lt (.inl rfl), HR.out.node_lt HD.out⟩
    have HT6 : Hid (w6.heap[T.tb]? = some (.cells #[ptrV (some T.root), .int .i64 (T.clock + 1), .int .i64 T.count] 139 (0, 0))) :=
      (hgrow6.block T.tb (Nat.lt_of_lt_of_le HTK.out.1 HK5.out) (fun e => by have := (HO5.out.lt _ e.symm).1; have := HTK.out; omega)).trans (below_heap HG5.out (lt_of_heap HT4.out) HT4.out)
    have HN6 : Hid (w6.heap[k]? = some (.cells #[.bool d.dir, d.bv, mapV d, .int .i64 d.links, .int .i64 (T.clock + 1)] 132 (0, 0))) :=
      (hgrow6.block k (Nat.lt_of_lt_of_le HTK.out.2 HK5.out) (fun e => by have := (HO5.out.lt _ e.symm).1; have := HTK.out; omega)).trans (below_heap HG5.out (lt_of_heap HN4.out) HN4.out)
    obtain ⟨a6, c6, hv6⟩ := owns_form HO6.out
    rw [hv6]
    have HV6 : Hid (v6 = .slice a6 (hd ++ b).length c6) := hv6
    clear hown6 hgrow6 hv6 h41 f4
    have h61 : w6.cell? ⟨k, 1, none⟩ = some d.bv := cell_of HN6.out rfl
    have f6 : ∀ o, w6.frozen? ⟨k, o, none⟩ = false := fun o => free_of HN6.out o
    go_wp2_with fail
    go_ret2
    rw [HHD.out]
    have hrep := setData_rep (b := hd ++ b) (bv := v6) (w' := w6.setCell ⟨k, 1, none⟩ (.slice a6 (hd.length + b.length) c6)) HR.out HD.out HDIR.out
      ((HK6.out.setCell (p := ⟨k, 1, none⟩) (.inl (.inr rfl)) _).mono (fun x hx => by rcases hx with h | h; exact .inl h; exact .inr (.inl h)))
      (by rw [heap_set_other _ _ _ (cells_ne_type HT6.out HN6.out (by decide))]; exact HT6.out)
      (by rw [HV6.out, List.length_append]; exact heap_set_same HN6.out 1 _)
      (by
        have h1 : w6.ownsRow B 5 1 v6 (hd ++ b).length (u8s (hd ++ b)) := ⟨HO6.out.1, HO6.out.2.imp id (fun ⟨g, cap, cur, q1, q2, q3⟩ => ⟨g, cap, cur, q1, Nat.le_trans HE.out.env.size q2, q3⟩)⟩
        refine ownsRow_kept h1 (Kept.setCell (F := fun x => x = k) (Kept.refl _ _) (.inl rfl) _) ?_
        intro r hr hf
        have h2 := (HO6.out.lt r hr).1
        have h3 := HTK.out
        omega)
      (fun r hr => .inl (HO6.out.lt r hr).1)
    refine ⟨v6, rfl, hrep.1, ?_, hrep.2⟩
    refine (HK6.out.setCell (p := ⟨k, 1, none⟩) (.inl (.inr rfl)) _).mono ?_
    rintro x (rfl | rfl)
    · exact .inl rfl
    · exact .inr (.inl ⟨d, HD.out⟩)
  | true =>
    obtain rfl : old = dl := by have := HOLD.out; simpa using this
    go_wp2_with fail
    have HT3 : Hid (((w1.alloc (.cells #[.pointer ia, .string nm, .pointer (some ⟨k, 0, none⟩)] 141)).alloc (.cells #[.pointer (some ⟨k, 0, none⟩)] 128)).heap[T.tb]? = some (.cells #[ptrV (some T.root), .int .i64 T.clock, .int .i64 T.count] 139 (0, 0))) := by
      show _ = _
      have := lt_of_heap HRP.out.tree
      rw [Below.heap_alloc _ _ _ (by simp; omega), Below.heap_alloc _ _ _ this]
      exact HRP.out.tree
    have HN3 : Hid (((w1.alloc (.cells #[.pointer ia, .string nm, .pointer (some ⟨k, 0, none⟩)] 141)).alloc (.cells #[.pointer (some ⟨k, 0, none⟩)] 128)).heap[k]? = some (.cells #[.bool d.dir, d.bv, mapV d, .int .i64 d.links, .int .i64 d.tick] 132 (0, 0))) := by
      show _ = _
      rw [Below.heap_alloc _ _ _ (by simp; omega), Below.heap_alloc _ _ _ hkl]
      exact (HRP.out.node k d HD.out).cells
    have HS3 : Hid (((w1.alloc (.cells #[.pointer ia, .string nm, .pointer (some ⟨k, 0, none⟩)] 141)).alloc (.cells #[.pointer (some ⟨k, 0, none⟩)] 128)).heap[w1.heap.size + 1]? = some (.cells #[.pointer (some ⟨k, 0, none⟩)] 128 (0, 0))) := by
      have h := heap_alloc_new (w1.alloc (.cells #[.pointer ia, .string nm, .pointer (some ⟨k, 0, none⟩)] 141)) (.cells #[.pointer (some ⟨k, 0, none⟩)] 128)
      have e : (w1.alloc (.cells #[.pointer ia, .string nm, .pointer (some ⟨k, 0, none⟩)] 141)).heap.size = w1.heap.size + 1 := by simp
      rw [e] at h
      exact h
    have HB3 : Hid (Below w.heap.size w ((w1.alloc (.cells #[.pointer ia, .string nm, .pointer (some ⟨k, 0, none⟩)] 141)).alloc (.cells #[.pointer (some ⟨k, 0, none⟩)] 128))) :=
      below_trans (below_trans HB.out (below_alloc _ _)) (below_alloc _ _)
    refine (tick1 hck0 hck HT3.out HN3.out HS3.out).mono ?_
    intro e w4 hp
    obtain ⟨rfl, hT4, hN4, hK4⟩ := hp
    have HT4 : Hid (w4.heap[T.tb]? = some (.cells #[ptrV (some T.root), .int .i64 (T.clock + 1), .int .i64 T.count] 139 (0, 0))) := hT4
    have HN4 : Hid (w4.heap[k]? = some (.cells #[.bool d.dir, d.bv, mapV d, .int .i64 d.links, .int .i64 (T.clock + 1)] 132 (0, 0))) := hN4
    have HK4 : Hid (Kept (fun x => x = T.tb ∨ x = k) w w4) := (Kept.of_below HB3.out (fun x => x = T.tb ∨ x = k)).trans hK4 (fun x hx => .inl hx)
    have hNodeF : ∀ r, d.bv.ownBlock = some r → ¬ (r = T.tb ∨ r = k) := by
      intro r hr
      obtain ⟨c, hc⟩ := (HR.out.node k d HD.out).row_block hr
      rintro (h | h)
      · exact cells_ne_type hc HR.out.tree (by decide) h
      · exact cells_ne_type hc (HR.out.node k d HD.out).cells (by decide) h
    have HRow4 : Hid (w4.ownsRow B 5 1 d.bv d.data.length (u8s d.data)) := ownsRow_kept (HR.out.node k d HD.out).row HK4.out hNodeF
    have HS4 : Hid (Src w4 (.slice ba b.length bc) b) := HS.out.kept HK4.out (fun x hx hf => HSF.out x hx (by
      rcases hf with rfl | rfl
      · exact .inl rfl
      · exact .inr (.inl ⟨d, HD.out⟩)))
    have HT0 : Hid (Src w4 (.slice av old cv) (d.data.take old)) := by
      have h := HRow4.out
      rw [HBV.out, ← HDL.out] at h
      exact src_take h old (by rw [HDL.out]; omega)
    have HTL : Hid ((d.data.take old).length = old) := by show _ = _; rw [List.length_take, HDL.out]; omega
    generalize hhd : d.data.take old = hd at *
    have HHD : Hid (d.data.take old = hd) := hhd
    clear hhd
    have hcv : old ≤ cv := by
      have h := HRow4.out.2
      rw [HBV.out] at h
      rcases h with ⟨h1, h2⟩ | ⟨g, cap, cur, h1, _, _, h2, _⟩
      · simp only [Value.slice.injEq] at h1; omega
      · simp only [Value.slice.injEq] at h1
        obtain ⟨_, _, rfl⟩ := h1
        rw [HDL.out] at h2
        exact h2
    clear hT4 hN4 hK4 HT3 HN3 HS3 HB3 hNodeF hc0 hc1
    have h41 : w4.cell? ⟨k, 1, none⟩ = some (.slice av old cv) := by
      have h1 : w4.cell? ⟨k, 1, none⟩ = some d.bv := cell_of HN4.out rfl
      rw [h1, HBV.out]
    have f4 : ∀ o, w4.frozen? ⟨k, o, none⟩ = false := fun o => free_of HN4.out o
    go_wp2_with (at_builtin; refine wpList_append_src rfl _ _ rfl w.heap.size (.slice none 0 0) 0 [] rfl (World.ownsRow_nil _ _ _ _) (.slice av old cv) hd rfl HT0.out ?hlen HK4.out.size ?_)
    case hlen => rw [HTL.out]; omega
    intro v5 w5 hown5 hgrow5
    have HO5 : Hid (w5.ownsRow w.heap.size 5 1 v5 old (u8s hd)) := by
      show w5.ownsRow _ _ _ _ _ _
      have h := hown5
      rw [HTL.out] at h
      simpa using h
    have HG5 : Hid (Below w4.heap.size w4 w5) := ⟨hgrow5.os, hgrow5.tape, hgrow5.output, hgrow5.size, fun q hq => hgrow5.block q hq (by simp [Value.ownBlock])⟩
    have HS5 : Hid (Src w5 (.slice ba b.length bc) b) := HS4.out.kept (Kept.of_below HG5.out (fun _ => False)) (fun _ _ hf => hf)
    have HK5 : Hid (w.heap.size ≤ w5.heap.size) := Nat.le_trans HK4.out.size HG5.out.size
    clear hown5 hgrow5
    go_wp2_with (at_builtin; refine wpList_append_src rfl _ _ rfl w.heap.size v5 old (u8s hd) rfl HO5.out (.slice ba b.length bc) b rfl HS5.out (by omega) HK5.out ?_)
    intro v6 w6 hown6 hgrow6
    have HO6 : Hid (w6.ownsRow w.heap.size 5 1 v6 (hd ++ b).length (u8s (hd ++ b))) := by
      show w6.ownsRow _ _ _ _ _ _
      rw [List.length_append, HTL.out, u8s_append]
      simpa using hown6
    have HK6 : Hid (Kept (fun x => x = T.tb ∨ x = k) w w6) := (HK4.out.then_below HG5.out).grown hgrow6 (fun r hr => .inr (HO5.out.lt r hr).1)
    have HTK : Hid (T.tb < w.heap.size ∧ k < w.heap.size) := ⟨HR.out.lt (.inl rfl), HR.out.node_lt HD.out⟩
    have HT6 : Hid (w6.heap[T.tb]? = some (.cells #[ptrV (some T.root), .int .i64 (T.clock + 1), .int .i64 T.count] 139 (0, 0))) :=
      (hgrow6.block T.tb (Nat.lt_of_lt_of_le HTK.out.1 HK5.out) (fun e => by have := (HO5.out.lt _ e.symm).1; have := HTK.out; omega)).trans (below_heap HG5.out (lt_of_heap HT4.out) HT4.out)
    have HN6 : Hid (w6.heap[k]? = some (.cells #[.bool d.dir, d.bv, mapV d, .int .i64 d.links, .int .i64 (T.clock + 1)] 132 (0, 0))) :=
      (hgrow6.block k (Nat.lt_of_lt_of_le HTK.out.2 HK5.out) (fun e => by have := (HO5.out.lt _ e.symm).1; have := HTK.out; omega)).trans (below_heap HG5.out (lt_of_heap HN4.out) HN4.out)
    obtain ⟨a6, c6, hv6⟩ := owns_form HO6.out
    rw [hv6]
    have HV6 : Hid (v6 = .slice a6 (hd ++ b).length c6) := hv6
    clear hown6 hgrow6 hv6 h41 f4
    have h61 : w6.cell? ⟨k, 1, none⟩ = some d.bv := cell_of HN6.out rfl
    have f6 : ∀ o, w6.frozen? ⟨k, o, none⟩ = false := fun o => free_of HN6.out o
    go_wp2_with fail
    go_ret2
    rw [HHD.out]
    have hrep := setData_rep (b := hd ++ b) (bv := v6) (w' := w6.setCell ⟨k, 1, none⟩ (.slice a6 (hd.length + b.length) c6)) HR.out HD.out HDIR.out
      ((HK6.out.setCell (p := ⟨k, 1, none⟩) (.inl (.inr rfl)) _).mono (fun x hx => by rcases hx with h | h; exact .inl h; exact .inr (.inl h)))
      (by rw [heap_set_other _ _ _ (cells_ne_type HT6.out HN6.out (by decide))]; exact HT6.out)
      (by rw [HV6.out, List.length_append]; exact heap_set_same HN6.out 1 _)
      (by
        have h1 : w6.ownsRow B 5 1 v6 (hd ++ b).length (u8s (hd ++ b)) := ⟨HO6.out.1, HO6.out.2.imp id (fun ⟨g, cap, cur, q1, q2, q3⟩ => ⟨g, cap, cur, q1, Nat.le_trans HE.out.env.size q2, q3⟩)⟩
        refine ownsRow_kept h1 (Kept.setCell (F := fun x => x = k) (Kept.refl _ _) (.inl rfl) _) ?_
        intro r hr hf
        have h2 := (HO6.out.lt r hr).1
        have h3 := HTK.out
        omega)
      (fun r hr => .inl (HO6.out.lt r hr).1)
    refine ⟨v6, rfl, hrep.1, ?_, hrep.2⟩
    refine (HK6.out.setCell (p := ⟨k, 1, none⟩) (.inl (.inr rfl)) _).mono ?_
    rintro x (rfl | rfl)
    · exact .inl rfl
    · exact .inr (.inl ⟨d, HD.out⟩)
end Go.Proofs.YtiejfbkbjahcgaaGreatDoor
