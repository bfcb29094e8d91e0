/-
  An open file's write, whatever is written: the laws of writeD; Size; the calls by ways 1 and 2.
  A kern's Write to an open file, whatever is written.
  Reading: (*File).ReadAt, a file's and an input's read, (*Kern).Read.
-/
import Derived.Test.YtjhojohjegkinaaGreatDoorWrA
import Derived.Test.YtjhojohjegkinaaGreatDoorNewA
namespace Go.Proofs.YtjhojohjegkinaaGreatDoor
open Go Go.RowKit

section
/-- Bytes put into a file at a place; nothing put turns nothing. -/
def writeD (d : List UInt8) (p : Nat) (b : List UInt8) : List UInt8 := if b = [] then d else putAt d p b

theorem writeD_nil (d : List UInt8) (p : Nat) : writeD d p [] = d := by simp [writeD]

/-- One file of the tree turned, nothing else of it but the clock. -/
structure Wr (T T' : Tr) (k : Nat) (d : Nd) (l : List UInt8) : Prop where
  tb : T'.tb = T.tb
  root : T'.root = T.root
  count : T'.count = T.count
  clock : T.clock ≤ T'.clock ∧ T'.clock ≤ T.clock + 1
  here : ∃ d', T'.nd k = some d' ∧ d'.dir = false ∧ d'.data = l ∧ d'.links = d.links
  others : ∀ n, n ≠ k → T'.nd n = T.nd n

theorem Wr.same {T : Tr} {k : Nat} {d : Nd} (hd : T.nd k = some d) (hdir : d.dir = false) : Wr T T k d d.data := ⟨rfl, rfl, rfl, ⟨Int.le_refl _, by omega⟩, ⟨d, hd, hdir, rfl, rfl⟩, fun _ _ => rfl⟩
theorem Wr.set (T : Tr) (k : Nat) {d : Nd} (hdir : d.dir = false) (bv : Value) (l : List UInt8) : Wr T (T.setData k d bv l) k d l :=
  ⟨rfl, rfl, by simp [Tr.setData, Tr.set, Tr.tick], ⟨by show T.clock ≤ T.clock + 1; omega, Int.le_refl _⟩, ⟨{ d with bv := bv, data := l, tick := T.clock + 1 }, by simp [Tr.setData, Tr.set, Tr.tick], hdir, rfl, rfl⟩, fun n hn => by simp only [Tr.setData, Tr.set, Tr.tick, hn, if_false]⟩

/-- What a file's write leaves, whatever is written. -/
def FAny (B : Nat) (w : World) (T : Tr) (b0 fb : Nat) (way : Int) (k : Nat) (d : Nd) (p : Nat) (b : List UInt8) (e : Ending) (w' : World) : Prop :=
  ∃ T', e = .returned .nilIface ∧ Rep B w' T' ∧ Wr T T' k d (writeD d.data p b) ∧ w'.heap[b0]? = some (.cells #[.pointer (some ⟨fb, 0, none⟩), .int .i64 way, .int .i64 ((p + b.length : Nat) : Int)] 226 (0, 0)) ∧
    Kept (fun x => T.foot x ∨ x = b0) w w' ∧ (∀ x, T'.foot x → T.foot x ∨ w.heap.size ≤ x)

theorem size_ok (f k tb : Nat) (a : Option Addr) (n c : Nat) (w : World) (hf : w.heap[f]? = some (.cells #[.pointer (some ⟨k, 0, none⟩), .pointer (some ⟨tb, 0, none⟩)] 169 (0, 0)))
    (hk : w.cell? ⟨k, 1, none⟩ = some (.slice a n c)) :
    Calls Tryz.prog 49 #[.pointer (some ⟨f, 0, none⟩)] w fun e w' => e = .returned (.int .i64 n) ∧ w' = w := by
  have g0 : w.cell? ⟨f, 0, none⟩ = some (.pointer (some ⟨k, 0, none⟩)) := cell_of hf rfl
  clear hf
  go_enter Tryz.func49, Tryz.ntmps49
  go_wp2_with fail
  go_ret
  exact ⟨rfl, rfl⟩

set_option maxRecDepth 100000 in
set_option maxHeartbeats 1000000 in
theorem fwrite_none {B : Nat} {T : Tr} (b0 fb p : Nat) (ba : Option Addr) (bc : Nat) (w : World) (hR : Rep B w T) (k : Nat) (d : Nd) (hd : T.nd k = some d) (hdir : d.dir = false) (hp : p ≤ 65536)
    (h0 : w.heap[b0]? = some (.cells #[.pointer (some ⟨fb, 0, none⟩), .int .i64 1, .int .i64 p] 226 (0, 0))) (h0T : ¬ T.foot b0) :
    Calls Tryz.prog 215 #[.pointer (some ⟨b0, 0, none⟩), .slice ba 0 bc] w fun e w' => FAny B w T b0 fb 1 k d p [] e w' := by
  have HWA : Hid (∀ W, Calls Tryz.prog 45 #[.pointer (some ⟨fb, 0, none⟩), .int .i64 p, .slice ba 0 bc] W fun e w' => e = .returned .nilIface ∧ w' = W) :=
    fun W => writeAt_none fb p ba bc W hp
  have H0 := Lib.hid h0
  have g0 : w.cell? ⟨b0, 0, none⟩ = some (.pointer (some ⟨fb, 0, none⟩)) := cell_of h0 rfl
  have g1 : w.cell? ⟨b0, 1, none⟩ = some (.int .i64 1) := cell_of h0 rfl
  have g2 : w.cell? ⟨b0, 2, none⟩ = some (.int .i64 p) := cell_of h0 rfl
  have gf : ∀ o, w.frozen? ⟨b0, o, none⟩ = false := fun o => free_of h0 o
  have HFIN : Hid (∀ W, Kept (fun _ => False) w W → FAny B w T b0 fb 1 k d p [] (.returned .nilIface) (W.setCell ⟨b0, 2, none⟩ (.int .i64 p))) := by
    intro W hW
    have hKW : Kept (fun x => x = b0) w (W.setCell ⟨b0, 2, none⟩ (.int .i64 p)) := (hW.mono (F1 := fun x => x = b0) (fun _ h => h.elim)).setCell (p := ⟨b0, 2, none⟩) (Or.inl rfl) _
    refine ⟨T, rfl, hR.kept hKW (fun x hx he => h0T (he ▸ hx)), by rw [writeD_nil]; exact Wr.same hd hdir, ?_, hKW.mono (fun x hx => .inr hx), fun x hx => .inl hx⟩
    exact heap_set_same ((hW.block _ (lt_of_heap h0) (fun h => h)).trans h0) 2 _
  clear hR hd hdir h0 h0T
  go_enter Tryz.func215, Tryz.ntmps215
  go_wp2_with fail
  go_region_with (go_at_call 45; refine (HWA.out _).mono ?_; rintro e w1 ⟨rfl, rfl⟩)
  all_goals
    go_wp2_with fail
    go_ret
    exact HFIN.out _ (Kept.refl _ w).drew



end

section

theorem Wr.files {T T' : Tr} {k : Nat} {d : Nd} {l : List UInt8} (h : Wr T T' k d l) : ∀ n x, T.nd n = some x → x.dir = false → ∃ x', T'.nd n = some x' ∧ x'.dir = false := by
  intro n x hn hx
  by_cases hk : n = k
  · subst hk
    obtain ⟨d', h1, h2, _⟩ := h.here
    exact ⟨d', h1, h2⟩
  · exact ⟨x, (h.others n hk).trans hn, hx⟩


end

section
/-- Bytes from a place on. -/
def readL (d : List UInt8) (p n : Nat) : List UInt8 := (d.drop p).take n

/-- What a read of a row leaves. -/
def RowPost (w : World) (l : List UInt8) (e : Ending) (w' : World) : Prop :=
  ∃ v, e = .returned v ∧ w'.ownsRow w.heap.size 5 1 v l.length (u8s l) ∧ Below w.heap.size w w'

theorem readAt_none (f pos n : Nat) (k tb : Nat) (a : Option Addr) (len c : Nat) (w : World) (hge : len ≤ pos)
    (hf : w.heap[f]? = some (.cells #[.pointer (some ⟨k, 0, none⟩), .pointer (some ⟨tb, 0, none⟩)] 169 (0, 0))) (hk : w.cell? ⟨k, 1, none⟩ = some (.slice a len c)) :
    Calls Tryz.prog 47 #[.pointer (some ⟨f, 0, none⟩), .int .i64 pos, .int .i64 n] w fun e w' => RowPost w [] e w' := by
  have g0 : w.cell? ⟨f, 0, none⟩ = some (.pointer (some ⟨k, 0, none⟩)) := cell_of hf rfl
  have hgi : (len : Int) ≤ pos := by omega
  clear hf
  go_enter Tryz.func47, Tryz.ntmps47
  go_wp2_with fail
  go_ret
  exact ⟨_, rfl, World.ownsRow_nil _ _ _ _, Below.refl _ _⟩

theorem add_eq (g o j : Nat) : (⟨g, o, none⟩ : Addr).add j = ⟨g, o + j, none⟩ := by
  unfold Addr.add
  by_cases h : j = 0
  · subst h; rfl
  · simp [h]

theorem src_cut {w : World} {g o c : Nat} {l : List UInt8} (h : Src w (.slice (some ⟨g, o, none⟩) l.length c) l) (p m : Nat) (hp : p + m ≤ l.length) (hpc : p ≤ c) :
    Src w (.slice (some ⟨g, o + p, none⟩) m (c - p)) ((l.drop p).take m) := by
  have e : ((l.drop p).take m).length = m := by simp; omega
  rcases h with ⟨h1, _⟩ | ⟨ad, c', h1, h2, h3⟩
  · cases h1
  · simp only [Value.slice.injEq, Option.some.injEq] at h1
    obtain ⟨rfl, _, rfl⟩ := h1
    refine .inr ⟨⟨g, o + p, none⟩, c - p, by rw [e], by omega, fun j hj => ?_⟩
    have h4 := h3 (p + j) (by omega)
    simp only [List.getElem_take, List.getElem_drop]
    rw [← h4, add_eq, add_eq, Nat.add_assoc]

section
attribute [local go_sem ↓] ap_rule
set_option maxRecDepth 100000 in
set_option maxHeartbeats 1000000 in
theorem readAt_some (f pos n : Nat) (k tb : Nat) (g len c : Nat) (w : World) (hn : (n : Int) ≤ 9223372036854775807) (hlt : pos < len) (hlen : len ≤ 140737488355328) (hc : len ≤ c)
    (hf : w.heap[f]? = some (.cells #[.pointer (some ⟨k, 0, none⟩), .pointer (some ⟨tb, 0, none⟩)] 169 (0, 0))) (hk : w.cell? ⟨k, 1, none⟩ = some (.slice (some ⟨g, 0, none⟩) len c))
    (l : List UInt8) (hll : l.length = len) (hs : Src w (.slice (some ⟨g, 0, none⟩) len c) l) :
    Calls Tryz.prog 47 #[.pointer (some ⟨f, 0, none⟩), .int .i64 pos, .int .i64 n] w fun e w' => RowPost w (readL l pos n) e w' := by
  have g0 : w.cell? ⟨f, 0, none⟩ = some (.pointer (some ⟨k, 0, none⟩)) := cell_of hf rfl
  have hli : (pos : Int) < len := by omega
  have hleni : (len : Int) ≤ 140737488355328 := by omega
  obtain ⟨m, hm⟩ : ∃ m : Nat, m = min n (len - pos) := ⟨_, rfl⟩
  obtain ⟨q, hq⟩ : ∃ q : Nat, q = pos + m := ⟨_, rfl⟩
  have hrl : (readL l pos n).length = m := by unfold readL; rw [List.length_take, List.length_drop, hll, hm]
  have hsrc : Src w.drew (.slice (some ⟨g, pos, none⟩) m (c - pos)) (readL l pos n) := by
    have h := src_cut (g := g) (o := 0) (c := c) (hll.symm ▸ hs) pos m (by omega) (by omega)
    rw [Nat.zero_add] at h
    have e : (l.drop pos).take m = readL l pos n := by
      unfold readL
      rw [hm, ← hll, ← List.length_drop, List.take_eq_take_iff]
      simp
    rw [e] at h
    exact h
  obtain ⟨hok, hn2, hown2, hgrow2⟩ := ap_known (w := w.drew) w.heap.size (.slice none 0 0) 0 [] (World.ownsRow_nil _ _ _ _) _ _ hsrc (by omega) (Nat.le_refl _)
  have HO2 : Hid ((apW w.drew (.slice none 0 0) (.slice (some ⟨g, pos, none⟩) m (c - pos))).ownsRow w.heap.size 5 1 (.slice (apA w.drew (.slice none 0 0) (.slice (some ⟨g, pos, none⟩) m (c - pos))) (apN w.drew (.slice none 0 0) (.slice (some ⟨g, pos, none⟩) m (c - pos))) (apC w.drew (.slice none 0 0) (.slice (some ⟨g, pos, none⟩) m (c - pos)))) (readL l pos n).length (u8s (readL l pos n))) := by
    show World.ownsRow _ _ _ _ _ _ _
    have h := hown2
    rw [Nat.zero_add, List.nil_append] at h
    exact h
  have HG2 : Hid (Below w.heap.size w (apW w.drew (.slice none 0 0) (.slice (some ⟨g, pos, none⟩) m (c - pos)))) := ⟨hgrow2.os, hgrow2.tape, hgrow2.output, hgrow2.size, fun x hx => hgrow2.block x hx (by simp [Value.ownBlock])⟩
  have e1 : IntKind.i64.wrap ((len : Int) - pos) = (len : Int) - pos := IntWalk.i64_in _ (by omega)
  have e2 : min (n : Int) ((len : Int) - pos) = m := by omega
  have e3 : IntKind.i64.wrap ((pos : Int) + m) = q := by rw [IntWalk.i64_in _ (by omega)]; omega
  have hqc : (q : Int) ≤ c := by omega
  have hpq : pos ≤ q := by omega
  have hqp : q - pos = m := by omega
  have hcp : ¬ c = pos := by omega
  have HM := Lib.hid hm
  have HQ := Lib.hid hq
  have HLL := Lib.hid hll
  have HRL := Lib.hid hrl
  have HLEN := Lib.hid hlen
  clear hf hs hm hq hll hrl hsrc hn2 hown2 hgrow2 hlen
  go_enter Tryz.func47, Tryz.ntmps47
  go_wp2_with fail
  go_region
  go_wp2_with fail
  go_ret
  exact ⟨_, rfl, HO2.out, HG2.out⟩
end

/-- ReadAt, of a file that is there, from a place on. -/
theorem readAt_any {B : Nat} {T : Tr} (f pos n : Nat) (w : World) (hR : Rep B w T) (k : Nat) (d : Nd) (hd : T.nd k = some d) (hdl : d.data.length ≤ 140737488355328)
    (hn : (n : Int) ≤ 9223372036854775807) (hf : w.heap[f]? = some (.cells #[.pointer (some ⟨k, 0, none⟩), .pointer (some ⟨T.tb, 0, none⟩)] 169 (0, 0))) :
    Calls Tryz.prog 47 #[.pointer (some ⟨f, 0, none⟩), .int .i64 pos, .int .i64 n] w fun e w' => RowPost w (readL d.data pos n) e w' := by
  have hrow := (hR.node k d hd).row
  have hk : w.cell? ⟨k, 1, none⟩ = some d.bv := cell_of (hR.node k d hd).cells rfl
  by_cases hlt : pos < d.data.length
  · rcases hrow.2 with ⟨_, h0⟩ | ⟨g, cap, cur, hbv, _, _, hc, _⟩
    · omega
    · rw [hbv] at hk hrow
      exact readAt_some f pos n k T.tb g d.data.length cap w hn hlt hdl hc hf hk d.data rfl (Src.of_owns hrow)
  · obtain ⟨a, c, hbv⟩ := owns_form hrow
    rw [hbv] at hk
    have e : readL d.data pos n = [] := by
      unfold readL
      rw [List.drop_eq_nil_of_le (by omega)]
      simp
    rw [e]
    exact readAt_none f pos n k T.tb a d.data.length c w (by omega) hf hk



end
end Go.Proofs.YtjhojohjegkinaaGreatDoor
