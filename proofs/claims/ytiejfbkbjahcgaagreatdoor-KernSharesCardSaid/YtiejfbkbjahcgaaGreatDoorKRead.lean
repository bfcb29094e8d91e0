/-
  Reading: (*File).ReadAt, a file's and an input's read, (*Kern).Read.
-/
import Derived.Test.YtiejfbkbjahcgaaGreatDoorKWrite
namespace Go.Proofs.YtiejfbkbjahcgaaGreatDoor
open Go Go.RowKit

/-- Bytes from a place on. -/
def readL (d : List UInt8) (p n : Nat) : List UInt8 := (d.drop p).take n

/-- What a read of a row leaves. -/
def RowPost (w : World) (l : List UInt8) (e : Ending) (w' : World) : Prop :=
  ∃ v, e = .returned v ∧ w'.ownsRow w.heap.size 5 1 v l.length (u8s l) ∧ Below w.heap.size w w'

theorem readAt_none (f pos n : Nat) (k tb : Nat) (a : Option Addr) (len c : Nat) (w : World) (hge : len ≤ pos)
    (hf : w.heap[f]? = some (.cells #[.pointer (some ⟨k, 0, none⟩), .pointer (some ⟨tb, 0, none⟩)] 149 (0, 0))) (hk : w.cell? ⟨k, 1, none⟩ = some (.slice a len c)) :
    Calls Tryz.prog 32 #[.pointer (some ⟨f, 0, none⟩), .int .i64 pos, .int .i64 n] w fun e w' => RowPost w [] e w' := by
  have g0 : w.cell? ⟨f, 0, none⟩ = some (.pointer (some ⟨k, 0, none⟩)) := cell_of hf rfl
  have hgi : (len : Int) ≤ pos := by omega
  clear hf
  go_enter Tryz.func32, Tryz.ntmps32
  go_wp2_with fail
  go_ret
  exact ⟨_, rfl, World.ownsRow_nil _ _ _ _, Below.refl _ _⟩

theorem add_eq (g o j : Nat) : (⟨g, o, none⟩ : Addr).add j = ⟨g, o + j, none⟩ := by
  unfold Addr.add
  by_cases h : j = 0
  · subst h; rfl
  · simp [h]

theorem src_cut {w : World} {g o c : Nat} {l : List UInt8} (h : Src w (.slice (some ⟨g, o, none⟩) l.length c) l) (p m : Nat) (hp : p + m ≤ l.length) (hpc : p ≤ c) :
    Src w (.slice (some ⟨g, o + p, none⟩) m (c - p)) ((l.drop p).take m) := by
  have e : ((l.drop p).take m).length = m := by simp; omega
  rcases h with ⟨h1, _⟩ | ⟨ad, c', h1, h2, h3⟩
  · cases h1
  · simp only [Value.slice.injEq, Option.some.injEq] at h1
    obtain ⟨rfl, _, rfl⟩ := h1
    refine .inr ⟨⟨g, o + p, none⟩, c - p, by rw [e], by omega, fun j hj => ?_⟩
    have h4 := h3 (p + j) (by omega)
    simp only [List.getElem_take, List.getElem_drop]
    rw [← h4, add_eq, add_eq, Nat.add_assoc]

section
attribute [local go_sem ↓] ap_rule
set_option maxRecDepth 100000 in
set_option maxHeartbeats 1000000 in
theorem readAt_some (f pos n : Nat) (k tb : Nat) (g len c : Nat) (w : World) (hn : (n : Int) ≤ 9223372036854775807) (hlt : pos < len) (hlen : len ≤ 140737488355328) (hc : len ≤ c)
    (hf : w.heap[f]? = some (.cells #[.pointer (some ⟨k, 0, none⟩), .pointer (some ⟨tb, 0, none⟩)] 149 (0, 0))) (hk : w.cell? ⟨k, 1, none⟩ = some (.slice (some ⟨g, 0, none⟩) len c))
    (l : List UInt8) (hll : l.length = len) (hs : Src w (.slice (some ⟨g, 0, none⟩) len c) l) :
    Calls Tryz.prog 32 #[.pointer (some ⟨f, 0, none⟩), .int .i64 pos, .int .i64 n] w fun e w' => RowPost w (readL l pos n) e w' := by
  have g0 : w.cell? ⟨f, 0, none⟩ = some (.pointer (some ⟨k, 0, none⟩)) := cell_of hf rfl
  have hli : (pos : Int) < len := by omega
  have hleni : (len : Int) ≤ 140737488355328 := by omega
  obtain ⟨m, hm⟩ : ∃ m : Nat, m = min n (len - pos) := ⟨_, rfl⟩
  obtain ⟨q, hq⟩ : ∃ q : Nat, q = pos + m := ⟨_, rfl⟩
  have hrl : (readL l pos n).length = m := by unfold readL; rw [List.length_take, List.length_drop, hll, hm]
  have hsrc : Src w.drew (.slice (some ⟨g, pos, none⟩) m (c - pos)) (readL l pos n) := by
    have h := src_cut (g := g) (o := 0) (c := c) (hll.symm ▸ hs) pos m (by omega) (by omega)
    rw [Nat.zero_add] at h
    have e : (l.drop pos).take m = readL l pos n := by
      unfold readL
      rw [hm, ← hll, ← List.length_drop, List.take_eq_take_iff]
      simp
    rw [e] at h
    exact h
  obtain ⟨hok, hn2, hown2, hgrow2⟩ := ap_known (w := w.drew) w.heap.size (.slice none 0 0) 0 [] (World.ownsRow_nil _ _ _ _) _ _ hsrc (by omega) (Nat.le_refl _)
  have HO2 : Hid ((apW w.drew (.slice none 0 0) (.slice (some ⟨g, pos, none⟩) m (c - pos))).ownsRow w.heap.size 5 1 (.slice (apA w.drew (.slice none 0 0) (.slice (some ⟨g, pos, none⟩) m (c - pos))) (apN w.drew (.slice none 0 0) (.slice (some ⟨g, pos, none⟩) m (c - pos))) (apC w.drew (.slice none 0 0) (.slice (some ⟨g, pos, none⟩) m (c - pos)))) (readL l pos n).length (u8s (readL l pos n))) := by
    show World.ownsRow _ _ _ _ _ _ _
    have h := hown2
    rw [Nat.zero_add, List.nil_append] at h
    exact h
  have HG2 : Hid (Below w.heap.size w (apW w.drew (.slice none 0 0) (.slice (some ⟨g, pos, none⟩) m (c - pos)))) := ⟨hgrow2.os, hgrow2.tape, hgrow2.output, hgrow2.size, fun x hx => hgrow2.block x hx (by simp [Value.ownBlock])⟩
  have e1 : IntKind.i64.wrap ((len : Int) - pos) = (len : Int) - pos := IntWalk.i64_in _ (by omega)
  have e2 : min (n : Int) ((len : Int) - pos) = m := by omega
  have e3 : IntKind.i64.wrap ((pos : Int) + m) = q := by rw [IntWalk.i64_in _ (by omega)]; omega
  have hqc : (q : Int) ≤ c := by omega
  have hpq : pos ≤ q := by omega
  have hqp : q - pos = m := by omega
  have hcp : ¬ c = pos := by omega
  have HM := Lib.hid hm
  have HQ := Lib.hid hq
  have HLL := Lib.hid hll
  have HRL := Lib.hid hrl
  have HLEN := Lib.hid hlen
  clear hf hs hm hq hll hrl hsrc hn2 hown2 hgrow2 hlen
  go_enter Tryz.func32, Tryz.ntmps32
  go_wp2_with fail
  go_region
  go_wp2_with fail
  go_ret
  exact ⟨_, rfl, HO2.out, HG2.out⟩
end

/-- ReadAt, of a file that is there, from a place on. -/
theorem readAt_any {B : Nat} {T : Tr} (f pos n : Nat) (w : World) (hR : Rep B w T) (k : Nat) (d : Nd) (hd : T.nd k = some d) (hdl : d.data.length ≤ 140737488355328)
    (hn : (n : Int) ≤ 9223372036854775807) (hf : w.heap[f]? = some (.cells #[.pointer (some ⟨k, 0, none⟩), .pointer (some ⟨T.tb, 0, none⟩)] 149 (0, 0))) :
    Calls Tryz.prog 32 #[.pointer (some ⟨f, 0, none⟩), .int .i64 pos, .int .i64 n] w fun e w' => RowPost w (readL d.data pos n) e w' := by
  have hrow := (hR.node k d hd).row
  have hk : w.cell? ⟨k, 1, none⟩ = some d.bv := cell_of (hR.node k d hd).cells rfl
  by_cases hlt : pos < d.data.length
  · rcases hrow.2 with ⟨_, h0⟩ | ⟨g, cap, cur, hbv, _, _, hc, _⟩
    · omega
    · rw [hbv] at hk hrow
      exact readAt_some f pos n k T.tb g d.data.length cap w hn hlt hdl hc hf hk d.data rfl (Src.of_owns hrow)
  · obtain ⟨a, c, hbv⟩ := owns_form hrow
    rw [hbv] at hk
    have e : readL d.data pos n = [] := by
      unfold readL
      rw [List.drop_eq_nil_of_le (by omega)]
      simp
    rw [e]
    exact readAt_none f pos n k T.tb a d.data.length c w (by omega) hf hk

theorem readL_length (d : List UInt8) (p n : Nat) : (readL d p n).length = min n (d.length - p) := by
  unfold readL
  rw [List.length_take, List.length_drop]

/-- What an open file's read leaves. -/
def FReadPost (w : World) (b0 fb : Nat) (way : Int) (pos : Nat) (l : List UInt8) (e : Ending) (w' : World) : Prop :=
  ∃ v, e = .returned (.tuple #[v, .nilIface]) ∧ w'.ownsRow w.heap.size 5 1 v l.length (u8s l) ∧ Kept (fun x => x = b0) w w' ∧
    w'.heap[b0]? = some (.cells #[.pointer (some ⟨fb, 0, none⟩), .int .i64 way, .int .i64 ((pos + l.length : Nat) : Int)] 188 (0, 0))

set_option maxRecDepth 100000 in
set_option maxHeartbeats 1000000 in
theorem fread_ok {B : Nat} {T : Tr} (b0 fb pos n : Nat) (w : World) (hR : Rep B w T) (k : Nat) (d : Nd) (hd : T.nd k = some d) (hdl : d.data.length ≤ 140737488355328) (hp : (pos : Int) ≤ 4611686018427387904) (hn : (n : Int) ≤ 9223372036854775807)
    (h0 : w.heap[b0]? = some (.cells #[.pointer (some ⟨fb, 0, none⟩), .int .i64 0, .int .i64 pos] 188 (0, 0)))
    (hf : w.heap[fb]? = some (.cells #[.pointer (some ⟨k, 0, none⟩), .pointer (some ⟨T.tb, 0, none⟩)] 149 (0, 0))) :
    Calls Tryz.prog 213 #[.pointer (some ⟨b0, 0, none⟩), .int .i64 n] w fun e w' => FReadPost w b0 fb 0 pos (readL d.data pos n) e w' := by
  have HRA : Hid (∀ W, Kept (fun _ => False) w W → Calls Tryz.prog 32 #[.pointer (some ⟨fb, 0, none⟩), .int .i64 pos, .int .i64 n] W fun e w' => RowPost W (readL d.data pos n) e w') :=
    fun W hW => readAt_any fb pos n W (hR.kept hW (fun _ _ h => h)) k d hd hdl hn ((hW.block _ (lt_of_heap hf) (fun h => h)).trans hf)
  have H0 := Lib.hid h0
  have g0 : w.cell? ⟨b0, 0, none⟩ = some (.pointer (some ⟨fb, 0, none⟩)) := cell_of h0 rfl
  have g1 : w.cell? ⟨b0, 1, none⟩ = some (.int .i64 0) := cell_of h0 rfl
  have g2 : w.cell? ⟨b0, 2, none⟩ = some (.int .i64 pos) := cell_of h0 rfl
  have hll : ((readL d.data pos n).length : Int) ≤ 140737488355328 := by rw [readL_length]; omega
  generalize readL d.data pos n = l at *
  clear hR hd hdl h0 hf
  go_enter Tryz.func213, Tryz.ntmps213
  go_wp2_with fail
  go_region_with (go_at_call 32; refine (HRA.out _ (by first | exact Kept.refl _ _ | exact (Kept.refl _ _).drew | exact ((Kept.refl _ _).drew).drew)).mono ?_; rintro e w1 ⟨v, rfl, hown, hb⟩; obtain ⟨va, vc, rfl⟩ := owns_form hown)
  all_goals
    have HO := Lib.hid hown
    have HB := Lib.hid (((Below.refl w.heap.size w).drew).trans hb)
    clear hown hb
    have H1 := Lib.hid (below_heap HB.out (lt_of_heap H0.out) H0.out)
    have p2 := cell_of (o := 2) H1.out rfl
    have pf := fun o => free_of H1.out o
    go_wp2_with fail
    go_ret2
    refine ⟨_, rfl, ?_, (Kept.of_below HB.out (fun x => x = b0)).setCell (p := ⟨b0, 2, none⟩) (.inl rfl) _, ?_⟩
    · exact ownsRow_kept HO.out (Kept.setCell (F := fun x => x = b0) (Kept.refl _ _) (.inl rfl) _) (fun r hr he => by have h1 := (HO.out.lt r hr).1; have h2 := lt_of_heap H0.out; simp at h1; omega)
    · exact heap_set_same H1.out 2 _
end Go.Proofs.YtiejfbkbjahcgaaGreatDoor
