/-
  An open file of both trees, step by step.
-/
import Derived.Test.YtjhojohjegkinaaGreatDoorOpenF
namespace Go.Proofs.YtjhojohjegkinaaGreatDoor
open Go Go.RowKit

section
variable {E : Nat → Addr} {w : World} {tb rb fb yb k : Nat} {L : List UInt8} {c : Int}
/-- Both trees; the program's file fb and the document's node yb hold L; the clock is c. -/
def Of0 (w : World) (tb rb fb yb k : Nat) (L : List UInt8) (c : Int) (W : World) : Prop :=
  ∃ T R f n d, Both w.heap.size W T R f k ∧ T.tb = tb ∧ R.tb = rb ∧ Below w.heap.size w W ∧ T.nd n = some d ∧ d.dir = false ∧ d.data = L ∧ OpenFile tb n W fb ∧ w.heap.size ≤ fb ∧ f n = yb ∧ T.clock = c
theorem OpenFile.below {tb n f : Nat} {W W' : World} (h : OpenFile tb n W f) (hb : Below W.heap.size W W') : OpenFile tb n W' f := by
  unfold OpenFile at h ⊢
  exact below_heap hb (lt_of_heap h) h
theorem OpenFile.kept {tb n f : Nat} {W W' : World} {F : Nat → Prop} (h : OpenFile tb n W f) (hk : Kept F W W') (hf : ¬ F f) : OpenFile tb n W' f := by
  unfold OpenFile at h ⊢
  exact (hk.block _ (lt_of_heap h) hf).trans h
/-- Blocks of other types than the trees' own stay as they are. -/
def Alien (t : TypeId) : Prop := t ≠ 133 ∧ t ≠ 126 ∧ t ≠ 5 ∧ t ≠ 75 ∧ t ≠ 163 ∧ t ≠ 86
def KeepC (W W' : World) : Prop := ∀ (x : Nat) (cs : Array Value) (t : TypeId), Alien t → W.heap[x]? = some (Obj.cells cs t (0, 0)) → W'.heap[x]? = some (Obj.cells cs t (0, 0))
theorem KeepC.of_below {W W' : World} (h : Below W.heap.size W W') : KeepC W W' := fun _ _ _ _ hx => below_heap h (lt_of_heap hx) hx
theorem alien_tree {B : Nat} {W : World} {T : Tr} (hR : Rep B W T) {x : Nat} {cs : Array Value} {t : TypeId} (ht : Alien t) (hx : W.heap[x]? = some (.cells cs t (0, 0))) : ¬ T.foot x := by
  intro h
  rcases h with h | ⟨d, hd⟩ | ⟨n, d, hd, ⟨hdir, he⟩ | hv⟩
  · rw [h] at hx
    exact cells_ne_type hx hR.tree ht.1 rfl
  · exact cells_ne_type hx (hR.node _ d hd).cells ht.2.1 rfl
  · obtain ⟨es, ck, ho, _⟩ := (hR.node n d hd).map hdir
    rw [he, hx] at ho
    cases ho
  · obtain ⟨cur, hc⟩ := owns_heap (hR.node n d hd).row hv
    exact cells_ne_type hx hc ht.2.2.1 rfl
theorem KeepC.of_tree {B : Nat} {W W' : World} {T : Tr} (hR : Rep B W T) (hk : Kept T.foot W W') : KeepC W W' := fun _ _ _ ht hx => (hk.block _ (lt_of_heap hx) (alien_tree hR ht hx)).trans hx
theorem KeepC.of_ref {B : Nat} {W W' : World} {R : RT} (hR : RRep B W R) (hk : Kept R.foot W W') : KeepC W W' := fun _ _ _ ht hx => (hk.block _ (lt_of_heap hx) (hR.not_foot hx ht.2.2.2.1 ht.2.2.2.2.1 ht.2.2.2.2.2 ht.2.2.1)).trans hx
theorem KeepC.trans {W W' W'' : World} (h : KeepC W W') (h' : KeepC W' W'') : KeepC W W'' := fun x cs t ht hx => h' x cs t ht (h x cs t ht hx)
theorem alien_file : Alien 169 := by unfold Alien; decide
theorem alien_at : Alien 88 := by unfold Alien; decide
theorem OpenFile.keep {tb n f : Nat} {W W' : World} (h : OpenFile tb n W f) (hk : KeepC W W') : OpenFile tb n W' f := hk _ _ _ alien_file h
theorem Failed.keep {L : Nat} {W W' : World} {a c : Nat} (h : Failed E L W a c) (hk : KeepC W W') : Failed E L W' a c := by
  obtain ⟨b, h1, h2, h3, h4⟩ := h
  exact ⟨b, h1, h2, hk _ _ _ (by unfold Alien; decide) h3, hk _ _ _ (by unfold Alien; decide) h4⟩
theorem OpenFile.off {B tb n f : Nat} {W : World} {R : RT} (h : OpenFile tb n W f) (hR : RRep B W R) : ¬ R.foot f := by
  unfold OpenFile at h
  exact hR.not_foot h (by decide) (by decide) (by decide) (by decide)
theorem Of0.next {W W' : World} (h : Of0 w tb rb fb yb k L c W) (hb : Below W.heap.size W W') : Of0 w tb rb fb yb k L c W' := by
  obtain ⟨T, R, f, n, d, h1, h2, h3, h4, h5, h6, h7, h8, h9⟩ := h
  exact ⟨T, R, f, n, d, h1.below hb, h2, h3, h4.trans (hb.mono h1.base), h5, h6, h7, h8.below hb, h9⟩
theorem Of0.low {W : World} (h : Of0 w tb rb fb yb k L c W) : Below w.heap.size w W := by
  obtain ⟨T, R, f, n, d, h1, h2, h3, h4, h5⟩ := h
  exact h4
theorem Of0.mono {k' : Nat} {W : World} (h : Of0 w tb rb fb yb k L c W) (hk : k ≤ k') : Of0 w tb rb fb yb k' L c W := by
  obtain ⟨T, R, f, n, d, h1, h2⟩ := h
  exact ⟨T, R, f, n, d, h1.mono hk, h2⟩
theorem Of0.now {W : World} (h : Of0 w tb rb fb yb k L c W) : W.cell? ⟨rb, 1, none⟩ = some (.int .i64 c) := by
  obtain ⟨T, R, f, n, d, h1, h2, h3, h4, h5, h6, h7, h8, h9, h10, h11⟩ := h
  rw [← h3, ← h11, ← h1.sim.now]
  exact cell_of (o := 1) h1.rrep.tree rfl
theorem Of0.data {W : World} (h : Of0 w tb rb fb yb k L c W) : ∃ da dc, W.cell? ⟨yb, 1, none⟩ = some (.slice da L.length dc) := by
  obtain ⟨T, R, f, n, d, h1, h2, h3, h4, h5, h6, h7, h8, h9, h10, h11⟩ := h
  obtain ⟨r, q1, q2, q3, q4⟩ := h1.sim.node n d h5
  rw [h10] at q1
  have hn := h1.rrep.node yb r q1
  obtain ⟨da, dc, hv⟩ := owns_form hn.2
  refine ⟨da, dc, ?_⟩
  rw [← h7, ← q3, ← hv]
  exact cell_of (o := 1) hn.1 rfl
theorem of_size {W : World} (h : Of0 w tb rb fb yb k L c W) : Calls Tryz.prog 49 #[.pointer (some ⟨fb, 0, none⟩)] W fun e w' => e = .returned (.int .i64 L.length) ∧ w' = W := by
  obtain ⟨T, R, f, n, d, h1, h2, h3, h4, h5, h6, h7, h8, h9, h10, h11⟩ := h
  have hk : W.cell? ⟨n, 1, none⟩ = some d.bv := cell_of (h1.rep.node n d h5).cells rfl
  obtain ⟨a, q, hbv⟩ := owns_form (h1.rep.node n d h5).row
  rw [hbv, h7] at hk
  exact size_ok fb n tb a L.length q W h8 hk
theorem of_now {W : World} (h : Of0 w tb rb fb yb k L c W) : Calls Tryz.prog 15 #[.pointer (some ⟨tb, 0, none⟩)] W fun e w' => e = .returned (.int .i64 c) ∧ w' = W := by
  obtain ⟨T, R, f, n, d, h1, h2, h3, h4, h5, h6, h7, h8, h9, h10, h11⟩ := h
  have := tree_now T.tb _ _ T.clock W h1.rep.tree
  rw [h2, h11] at this
  exact this
theorem of_read {W : World} (h : Of0 w tb rb fb yb k L c W) (pos n : Int) (hn : -9223372036854775808 ≤ n ∧ n ≤ 9223372036854775807) : Calls Tryz.prog 47 #[.pointer (some ⟨fb, 0, none⟩), .int .i64 pos, .int .i64 n] W fun e w' => ∃ va vc, e = .returned (.slice va (readI L pos n).length vc) ∧ Src w' (.slice va (readI L pos n).length vc) (readI L pos n) ∧ Of0 w tb rb fb yb k L c w' ∧ Below W.heap.size W w' := by
  obtain ⟨T, R, f, q, d, h1, h2, h3, h4, h5, h6, h7, h8, h9⟩ := id h
  have hl := h1.ti.data q d h5
  refine (readAt_int fb pos n W h1.rep q d h5 (by omega) hn (by rw [h2]; exact h8)).mono fun e w' ⟨v, he, hown, hb⟩ => ?_
  rw [h7] at hown
  obtain ⟨va, vc, rfl⟩ := owns_form hown
  exact ⟨va, vc, he, Src.of_owns hown, h.next hb, hb⟩
theorem of_rread {W : World} (h : Of0 w tb rb fb yb k L c W) (pos n : Int) (hp : -9223372036854775808 ≤ pos ∧ pos ≤ 9223372036854775807) (hn : -9223372036854775808 ≤ n ∧ n ≤ 9223372036854775807) : Calls Tryz.prog 48 #[.pointer (some ⟨yb, 0, none⟩), .int .i64 pos, .int .i64 n] W fun e w' => ∃ va vc, e = .returned (.slice va (readI L pos n).length vc) ∧ Src w' (.slice va (readI L pos n).length vc) (readI L pos n) ∧ Below W.heap.size W w' := by
  obtain ⟨T, R, f, q, d, h1, h2, h3, h4, h5, h6, h7, h8, h9, h10, h11⟩ := id h
  obtain ⟨r, q1, q2, q3, q4⟩ := h1.sim.node q d h5
  rw [h10] at q1
  have hl := h1.ti.data q d h5
  refine (rread_any pos n W h1.rrep yb r q1 (by rw [q3]; omega) hp hn).mono fun e w' ⟨v, he, hown, hb⟩ => ?_
  rw [q3, h7] at hown
  obtain ⟨va, vc, rfl⟩ := owns_form hown
  exact ⟨va, vc, he, Src.of_owns hown, hb⟩

/-! ### a write -/
def wCode (pos : Int) (b : List UInt8) : Nat := if pos < 0 then 1 else if 65536 < pos + b.length then 19 else 0
theorem wCode_le (pos : Int) (b : List UInt8) : wCode pos b ≤ 21 := by
  unfold wCode
  repeat' split
  all_goals omega
/-- The program's write is made, the document's is not yet. -/
def Of1 (E : Nat → Addr) (w : World) (tb rb fb yb k : Nat) (L : List UInt8) (c : Int) (pos : Int) (b : List UInt8) (y : Value) (W : World) : Prop :=
  ((∃ w0 w1, (wCode pos b ≠ 0 ∧ TErr E w0 (wCode pos b) (.returned y) w1) ∧ Below w1.heap.size w1 W) ∧ Of0 w tb rb fb yb k L c W) ∨
  (wCode pos b = 0 ∧ y = .nilIface ∧ b = [] ∧ Of0 w tb rb fb yb k L c W) ∨
  (wCode pos b = 0 ∧ y = .nilIface ∧ 0 < b.length ∧ ∃ T T1 R f n d, FHalf w.heap.size W T T1 R f k n d (putAt L pos.toNat b) ∧ T.tb = tb ∧ R.tb = rb ∧ Below w.heap.size w W ∧ T.nd n = some d ∧ d.dir = false ∧ d.data = L ∧ OpenFile tb n W fb ∧ w.heap.size ≤ fb ∧ f n = yb)
theorem Of1.next {pos : Int} {b : List UInt8} {y : Value} {W W' : World} (h : Of1 E w tb rb fb yb k L c pos b y W) (hb : Below W.heap.size W W') : Of1 E w tb rb fb yb k L c pos b y W' := by
  rcases h with ⟨⟨w0, w1, h1, h2⟩, h3⟩ | ⟨h0, h1, h2, h3⟩ | ⟨h0, h1, h2, T, T1, R, f, n, d, h3, h4, h5, h6, h7, h8, h9, h10, h11⟩
  · exact .inl ⟨⟨w0, w1, h1, h2.trans (hb.mono h2.size)⟩, h3.next hb⟩
  · exact .inr (.inl ⟨h0, h1, h2, h3.next hb⟩)
  · exact .inr (.inr ⟨h0, h1, h2, T, T1, R, f, n, d, h3.below hb, h4, h5, h6.trans (hb.mono h3.base), h7, h8, h9, h10.below hb, h11⟩)
theorem Of1.low {pos : Int} {b : List UInt8} {y : Value} {W : World} (h : Of1 E w tb rb fb yb k L c pos b y W) : Below w.heap.size w W := by
  rcases h with ⟨_, h3⟩ | ⟨_, _, _, h3⟩ | ⟨_, _, _, T, T1, R, f, n, d, _, _, _, h6, _⟩
  · exact h3.low
  · exact h3.low
  · exact h6
theorem file_off {B tb n fb : Nat} {W : World} {T : Tr} (hR : Rep B W T) (hf : OpenFile tb n W fb) : ¬ T.foot fb := alien_tree hR alien_file hf
theorem of_write {W : World} (hE : ∀ W, Below w.heap.size w W → Ctx E w.heap.size W) (h : Of0 w tb rb fb yb k L c W) (pos : Int) (dv : Value) (b : List UInt8) (hs : Src W dv b) (hoff : 0 < b.length → ∀ x, dv.ownBlock = some x → x < w.heap.size) (hbl : b.length ≤ 140737488355328) :
    Calls Tryz.prog 45 #[.pointer (some ⟨fb, 0, none⟩), .int .i64 pos, dv] W fun e w' => ∃ y, e = .returned y ∧ Of1 E w tb rb fb yb k L c pos b y w' ∧ KeepC W w' := by
  obtain ⟨T, R, f, n, d, h1, h2, h3, h4, h5, h6, h7, h8, h9, h10, h11⟩ := id h
  have hEn := (hE W h4).env
  by_cases h0 : pos < 0
  · refine (writeAt_arg fb pos dv W hEn h0).mono fun e w' ⟨a, he, hf, hb⟩ => ⟨_, he, .inl ⟨⟨W, w', ?_, Below.refl _ _⟩, h.next hb⟩, KeepC.of_below hb⟩
    have hc : wCode pos b = 1 := by unfold wCode; rw [if_pos h0]
    rw [hc]
    exact ⟨by decide, a, rfl, hf, hb⟩
  · obtain ⟨p, rfl⟩ : ∃ p : Nat, pos = p := ⟨pos.toNat, by omega⟩
    by_cases hf : p + b.length ≤ 65536
    · have hc : wCode (p : Int) b = 0 := by unfold wCode; rw [if_neg h0, if_neg (by omega)]
      by_cases hz : 0 < b.length
      · refine (writeAt_ok fb p dv b W h1.base h1.rep h1.num.clk0 h1.num.clk1 n d h5 h6 (h1.ti.data n d h5) hf hz hs (fun x hx ht => ?_) (by rw [h2]; exact h8)).mono fun e w' hp => ?_
        · have := hoff hz x hx
          have := h1.rep.low x ht
          omega
        · rw [h7] at hp
          obtain ⟨he, ⟨T1, hh⟩, hk⟩ := h1.fwrote hp
          exact ⟨_, he, .inr (.inr ⟨hc, rfl, hz, T, T1, R, f, n, d, by rw [Int.toNat_natCast]; exact hh, h2, h3, h4.trans (hk.below (B := w.heap.size) h1.rep.low h1.base), h5, h6, h7, h8.kept hk (file_off h1.rep h8), h9, h10⟩), KeepC.of_tree h1.rep hk⟩
      · have hb0 : b = [] := List.eq_nil_of_length_eq_zero (by omega)
        subst hb0
        have hdv : ∃ da dc, dv = .slice da 0 dc := by
          rcases hs with ⟨q1, _⟩ | ⟨ad, q, q1, _⟩
          · exact ⟨none, 0, q1⟩
          · exact ⟨_, _, q1⟩
        obtain ⟨da, dc, rfl⟩ := hdv
        refine (writeAt_none fb p da dc W (by simpa using hf)).mono fun e w' ⟨he, hw⟩ => ⟨_, he, .inr (.inl ⟨hc, rfl, rfl, by rw [hw]; exact h⟩), by rw [hw]; exact fun _ _ _ _ hx => hx⟩
    · have hdv : ∃ da dc, dv = .slice da b.length dc := by
        rcases hs with ⟨q1, q2⟩ | ⟨ad, q, q1, _⟩
        · exact ⟨none, 0, by rw [q1, q2]; rfl⟩
        · exact ⟨_, _, q1⟩
      obtain ⟨da, dc, rfl⟩ := hdv
      refine (writeAt_full fb p da b.length dc W hEn (by omega) (by omega)).mono fun e w' ⟨a, he, hfl, hb⟩ => ⟨_, he, .inl ⟨⟨W, w', ?_, Below.refl _ _⟩, h.next hb⟩, KeepC.of_below hb⟩
      have hc : wCode (p : Int) b = 19 := by unfold wCode; rw [if_neg h0, if_pos (by omega)]
      rw [hc]
      exact ⟨by decide, a, rfl, hfl, hb⟩
theorem of_tell {W : World} (hE : ∀ W, Below w.heap.size w W → Ctx E w.heap.size W) (hY : ∀ W, Below w.heap.size w W → Ety w.heap.size W) {pos : Int} {b : List UInt8} {y : Value} (h : Of1 E w tb rb fb yb k L c pos b y W) :
    Calls Tryz.prog 29 #[y] W fun e w' => e = .returned (codeV (wCode pos b)) ∧ Of1 E w tb rb fb yb k L c pos b y w' ∧ KeepC W w' := by
  have hl := h.low
  have key : ∃ w0 w1, ((wCode pos b ≠ 0 ∧ TErr E w0 (wCode pos b) (.returned y) w1) ∨ (wCode pos b = 0 ∧ Ending.returned y = .returned .nilIface)) ∧ Below w1.heap.size w1 W := by
    rcases id h with ⟨⟨w0, w1, h1, h2⟩, _⟩ | ⟨h0, rfl, _⟩ | ⟨h0, rfl, _⟩
    · exact ⟨w0, w1, .inl h1, h2⟩
    · exact ⟨W, W, .inr ⟨h0, rfl⟩, Below.refl _ _⟩
    · exact ⟨W, W, .inr ⟨h0, rfl⟩, Below.refl _ _⟩
  obtain ⟨w0, w1, q1, q2⟩ := key
  exact (terr_tell q1 (wCode_le pos b) q2 (hE W hl).env (hY W hl)).mono fun e w' ⟨he, hb⟩ => ⟨he, h.next hb, KeepC.of_below hb⟩
theorem of_rwrite {W : World} (hk : k ≤ 70000) {pos : Int} {dv : Value} {b : List UInt8} {y : Value} (hs : Src W dv b) (h : Of1 E w tb rb fb yb k L c pos b y W) :
    Calls Tryz.prog 46 #[.pointer (some ⟨rb, 0, none⟩), .pointer (some ⟨yb, 0, none⟩), .int .i64 pos, dv] W fun e w' => e = .returned (codeV (wCode pos b)) ∧ (∃ L' c', Of0 w tb rb fb yb (k + 1) L' c' w') ∧ KeepC W w' := by
  have old : ∀ (hc : Of0 w tb rb fb yb k L c W) (_ : wCode pos b ≠ 0 ∨ b = []), Calls Tryz.prog 46 #[.pointer (some ⟨rb, 0, none⟩), .pointer (some ⟨yb, 0, none⟩), .int .i64 pos, dv] W fun e w' => e = .returned (codeV (wCode pos b)) ∧ (∃ L' c', Of0 w tb rb fb yb (k + 1) L' c' w') ∧ KeepC W w' := by
    intro hc hw
    obtain ⟨T, R, f, n, d, h1, h2, h3, h4, h5, h6, h7, h8, h9, h10, h11⟩ := id hc
    obtain ⟨r, q1, q2, q3, q4⟩ := h1.sim.node n d h5
    rw [h10] at q1
    have hm := ref_writeAt pos dv b W h1.rrep h1.rn.rb yb r q1 (h1.rn.data yb r q1) hs
    rw [h3] at hm
    refine hm.mono fun e w' hp => ?_
    rcases hp.case with ⟨x, hx, he, _, hb, hcs⟩ | ⟨he, g1, g2, g3, _, hb⟩ | ⟨_, g1, g2, g3, _⟩
    · have hx2 : wCode pos b = x := by
        unfold wCode
        rcases hcs with ⟨rfl, g⟩ | ⟨rfl, g, g'⟩
        · rw [if_pos g]
        · rw [if_neg (by omega), if_pos g']
      exact ⟨by rw [he, hx2, codeV_pos hx], ⟨L, c, (hc.next hb).mono (Nat.le_succ _)⟩, KeepC.of_below hb⟩
    · have hx2 : wCode pos b = 0 := by unfold wCode; rw [if_neg (by omega), if_neg (by omega)]
      exact ⟨by rw [he, hx2]; rfl, ⟨L, c, (hc.next hb).mono (Nat.le_succ _)⟩, KeepC.of_below hb⟩
    · exfalso
      rcases hw with hw | rfl
      · exact hw (by unfold wCode; rw [if_neg (by omega), if_neg (by omega)])
      · simp at g3
  rcases h with ⟨⟨w0, w1, ⟨h0, _⟩, _⟩, h3⟩ | ⟨h0, h1, h2, h3⟩ | ⟨h0, h1, h2, T, T1, R, f, n, d, g3, g4, g5, g6, g7, g8, g9, g10, g11, g12⟩
  · exact old h3 (.inl h0)
  · exact old h3 (.inr h2)
  · obtain ⟨r, q1, q2, q3, q4⟩ := g3.sim.node n d g7
    have hnd := q1
    rw [g12] at q1
    have hm := ref_writeAt pos dv b W g3.rrep g3.rn.rb yb r q1 (g3.rn.data yb r q1) hs
    rw [g5] at hm
    refine hm.mono fun e w' hp => ?_
    rcases hp.case with ⟨x, hx, he, _, hb, hcs⟩ | ⟨he, j1, j2, j3, _, hb⟩ | ⟨he, j1, j2, j3, R', j4, j5, j6, j7⟩
    · exfalso
      unfold wCode at h0
      rcases hcs with ⟨rfl, g⟩ | ⟨rfl, g, g'⟩
      · rw [if_pos g] at h0; cases h0
      · rw [if_neg (by omega), if_pos g'] at h0; cases h0
    · rw [j3] at h2; simp at h2
    · have hlen : (putAt L pos.toNat b).length ≤ 65536 := by
        have h1 := g3.ti.data n d g7
        rw [g9] at h1
        exact putAt_len h1 (by omega)
      have j6 : RTurned R R' (f n) r (putAt L pos.toNat b) := by rw [g12, ← g9, ← q3]; exact j6
      have hbo := g3.both g7 hlen (by omega) hp.kept j4 j6 hnd j7
      obtain ⟨bv, hh⟩ := g3.tn.here
      refine ⟨by rw [he, h0]; rfl, ⟨_, _, T1, R', f, n, _, hbo, g3.tb.trans g4, j5.trans g5, g6.trans (hp.kept.below (B := w.heap.size) g3.rrep.low g3.base), hh, g8, rfl, ?_, g11, g12, rfl⟩, KeepC.of_ref g3.rrep hp.kept⟩
      exact g10.kept hp.kept (g10.off g3.rrep)

/-! ### the opening -/
/-- The program's Open is made: v is the file or none, y the error. -/
def Op1 (E : Nat → Addr) (w : World) (tb rb k : Nat) (p : ByteArray) (way : Int) (T : Tr) (R : RT) (f : Nat → Nat) (v y : Value) (W : World) : Prop :=
  T.tb = tb ∧ R.tb = rb ∧ Below w.heap.size w W ∧
  ((T.cOpen p way ≠ 0 ∧ v = .pointer none ∧ Both w.heap.size W T R f k ∧ ∃ L a, y = failV a ∧ Failed E L W a (T.cOpen p way)) ∨
   (T.cOpen p way = 0 ∧ y = .nilIface ∧ ∃ fb q T1, v = .pointer (some ⟨fb, 0, none⟩) ∧ w.heap.size ≤ fb ∧ OpenFile tb q W fb ∧ T1.leads p q ∧
     ((way = 0 ∧ T1 = T ∧ Both w.heap.size W T R f k) ∨ (∃ add, ((way = 1 ∧ add = false) ∨ (way = 2 ∧ add = true)) ∧ Half w.heap.size W T T1 R f k (oWrite p [] add)))))
theorem op_open {W : World} {T : Tr} {R : RT} {f : Nat → Nat} (hE : ∀ W, Below w.heap.size w W → Ctx E w.heap.size W) (p : ByteArray) (hp : p.size ≤ 9223372036854775807) (way : Int) (h1 : Both w.heap.size W T R f k) (h2 : T.tb = tb) (h3 : R.tb = rb) (h4 : Below w.heap.size w W) :
    Calls Tryz.prog 41 #[.pointer (some ⟨tb, 0, none⟩), .string p, .int .i64 way] W fun e w' => ∃ v y, e = .returned (.tuple #[v, y]) ∧ Op1 E w tb rb k p way T R f v y w' := by
  have ho := open_full p way W (hE W h4) h1.rep h1.ti h1.num hp
  rw [h2] at ho
  refine ho.mono fun e w' hx => ?_
  rcases hx with ⟨h0, a, he, hf, hb⟩ | ⟨h0, fb, q, T', he, hfl, hof, q1, q2, q3, q4, q5, q6⟩
  · exact ⟨_, _, he, h2, h3, h4.trans (hb.mono h1.base), .inl ⟨h0, rfl, h1.below hb, _, a, rfl, hf⟩⟩
  · have hr : RRep w.heap.size w' R := h1.rrep.kept q2 (fun b hb hf => feet_apart h1.rep h1.rrep h1.apart b hf hb)
    have hap : Apart T' R := by
      intro b' m d m' d' hm hm' hv hv'
      have hrf : R.foot b' := .inr (.inr (.inr ⟨m', d', hm', hv'⟩))
      rcases (q3 b' (.inr (.inr ⟨m, d, hm, .inr hv⟩))).1 with h7 | h7
      · exact feet_apart h1.rep h1.rrep h1.apart b' h7 hrf
      · have := h1.rrep.lt hrf
        omega
    have hbs := Nat.le_trans h1.base q2.size
    refine ⟨_, _, he, h2, h3, h4.trans (q2.below (B := w.heap.size) h1.rep.low h1.base), .inr ⟨h0, rfl, fb, q, T', rfl, Nat.le_trans h1.base hfl, by rw [← h2]; exact hof, q6, ?_⟩⟩
    rcases q5 with ⟨rfl, rfl⟩ | ⟨rfl, hw⟩ | ⟨rfl, hw⟩
    · exact .inl ⟨rfl, rfl, q1, hr, h1.sim, h1.ti, h1.rn, hap, hbs, h1.tg⟩
    · have hc : T.code (oWrite p [] false) = 0 := by rw [code_write]; exact h0
      exact .inr ⟨false, .inl ⟨rfl, rfl⟩, q1, hr, h1.sim, h1.ti, h1.rn, hap, .inr ⟨hc, done_write hw⟩, q4, hbs, h1.tg⟩
    · have hc : T.code (oWrite p [] true) = 0 := by rw [code_write]; exact h0
      exact .inr ⟨true, .inr ⟨rfl, rfl⟩, q1, hr, h1.sim, h1.ti, h1.rn, hap, .inr ⟨hc, done_write hw⟩, q4, hbs, h1.tg⟩
/-- Both are made. -/
def Op2 (E : Nat → Addr) (w : World) (tb rb k : Nat) (c : Nat) (v y v2 : Value) (W : World) : Prop :=
  (c ≠ 0 ∧ v = .pointer none ∧ (∃ L a, y = failV a ∧ Failed E L W a c) ∧ MI w tb rb k W) ∨
  (c = 0 ∧ y = .nilIface ∧ ∃ fb yb L n, v = .pointer (some ⟨fb, 0, none⟩) ∧ v2 = .pointer (some ⟨yb, 0, none⟩) ∧ Of0 w tb rb fb yb k L n W)
theorem leads_file {T : Tr} {p : ByteArray} {q k : Nat} (h : T.leads p q) (h' : ∃ l, clean p = some l ∧ T.at l = some k) : q = k := by
  obtain ⟨l, h1, h2⟩ := h
  obtain ⟨l', h3, h4⟩ := h'
  rw [h1] at h3
  cases h3
  rw [h2] at h4
  exact Option.some.inj h4
theorem op_ropen {W : World} {T : Tr} {R : RT} {f : Nat → Nat} (hk : k ≤ 70000) (p : ByteArray) (hp : p.size ≤ 9223372036854775807) {way : Int} {v y : Value} (h : Op1 E w tb rb k p way T R f v y W) :
    Calls Tryz.prog 42 #[.pointer (some ⟨rb, 0, none⟩), .string p, .int .i64 way] W fun e w' => ∃ v2, e = .returned (.tuple #[v2, codeV (T.cOpen p way)]) ∧ Op2 E w tb rb (k + 1) (T.cOpen p way) v y v2 w' := by
  obtain ⟨h2, h3, h4, hcs⟩ := h
  have hpre : RRep w.heap.size W R ∧ RN R k ∧ Sim T R f ∧ TI T := by
    rcases hcs with ⟨_, _, hb, _⟩ | ⟨_, _, _, _, _, _, _, _, _, ⟨_, _, hb⟩ | ⟨_, _, hb⟩⟩
    · exact ⟨hb.rrep, hb.rn, hb.sim, hb.ti⟩
    · exact ⟨hb.rrep, hb.rn, hb.sim, hb.ti⟩
    · exact ⟨hb.rrep, hb.rn, hb.sim, hb.ti⟩
  obtain ⟨hrr, hrn, hsim, hti⟩ := hpre
  have hl := hrn.len
  have hnw := hrn.now
  have ho := ref_open p way W hrr hrn.rb (by omega) (by omega) hp (fun n d hn => by have := hrn.data n d hn; omega)
  rw [h3] at ho
  refine ho.mono fun e w' hx => ?_
  have hkc : KeepC W w' := KeepC.of_ref hrr hx.kept
  have hbl : Below w.heap.size w w' := h4.trans (hx.kept.below (B := w.heap.size) hrr.low h4.size)
  rcases hx.case with ⟨c, hc, he, hr', hno⟩ | ⟨m, d, R', he, hr', htb, hfr, hif, hdo⟩
  · have hcode : T.cOpen p way = c := by
      unfold Tr.cOpen
      rcases hno with ⟨rfl, g0, g1, g2⟩ | ⟨rfl, g⟩ | ⟨rfl, g⟩ | ⟨rfl, g⟩
      · rw [if_neg g0, if_neg g1, if_neg g2]
      · rw [if_pos rfl]
        unfold Tr.cFile
        rw [hsim.no_file hti.tw g]
      · rw [if_neg (by decide), if_pos rfl]
        exact hsim.no_write hti.tw g
      · rw [if_neg (by decide), if_neg (by decide), if_pos rfl]
        exact hsim.no_write hti.tw g
    rw [hcode] at hcs ⊢
    refine ⟨_, by rw [he, codeV_pos hc], ?_⟩
    rcases hcs with ⟨_, g1, hb, L, a, g2, g3⟩ | ⟨g0, _⟩
    · have hrT : Rep w.heap.size w' T := hb.rep.kept hx.kept (fun b hb' hf => feet_apart hb.rep hb.rrep hb.apart b hb' hf)
      exact .inl ⟨hc, g1, ⟨L, a, g2, g3.keep hkc⟩, T, R, f, ⟨hrT, hr', hb.sim, hb.ti, hb.rn.mono (Nat.le_succ _), hb.apart, Nat.le_trans hb.base hx.kept.size, hb.tg⟩, h2, h3, hbl⟩
    · exact absurd g0 hc
  · have hcode : T.cOpen p way = 0 := by
      unfold Tr.cOpen
      rcases hdo with ⟨rfl, rfl⟩ | ⟨rfl, g⟩ | ⟨rfl, g⟩
      · rw [if_pos rfl]
        unfold Tr.cFile
        obtain ⟨k', d', g1, _⟩ := hsim.is_file hti.tw hif
        rw [g1]
      · rw [if_neg (by decide), if_pos rfl]
        exact hsim.wrote hti.tw g
      · rw [if_neg (by decide), if_neg (by decide), if_pos rfl]
        exact hsim.wrote hti.tw g
    rw [hcode] at hcs ⊢
    refine ⟨_, by rw [he]; rfl, ?_⟩
    rcases hcs with ⟨g0, _⟩ | ⟨_, g1, fb, q, T1, g2, g3, g4, g5, g6⟩
    · exact absurd rfl g0
    · have fin : ∀ f', Both w.heap.size w' T1 R' f' (k + 1) → T1.tb = tb → Op2 E w tb rb (k + 1) 0 v y (.pointer (some ⟨m, 0, none⟩)) w' := by
        intro f' hbo ht1
        obtain ⟨k', d', j1, j2, j3, j4, j5, j6, j7⟩ := hbo.sim.is_file hbo.ti.tw hif
        have hqk := leads_file g5 j7
        subst hqk
        exact .inr ⟨rfl, g1, fb, m, d'.data, T1.clock, g2, rfl, T1, R', f', q, d', hbo, ht1, htb.trans h3, hbl, j3, j4, rfl, g4.keep hkc, g3, j2, rfl⟩
      rcases g6 with ⟨rfl, rfl, hb⟩ | ⟨add, hw, hh⟩
      · have hR' : R' = R := by
          rcases hdo with ⟨_, h⟩ | ⟨h, _⟩ | ⟨h, _⟩
          · exact h
          · cases h
          · cases h
        subst hR'
        refine fin f ⟨hb.rep.kept hx.kept (fun b hb' hf => feet_apart hb.rep hb.rrep hb.apart b hb' hf), hr', hb.sim, hb.ti, hb.rn.mono (Nat.le_succ _), hb.apart, Nat.le_trans hb.base hx.kept.size, hb.tg⟩ h2
      · have hmo : MOk R R' (oWrite p [] add) := by
          rcases hw with ⟨rfl, rfl⟩ | ⟨rfl, rfl⟩
          · rcases hdo with ⟨h, _⟩ | ⟨_, h⟩ | ⟨h, _⟩
            · cases h
            · exact .inr (.inl ⟨rfl, h⟩)
            · cases h
          · rcases hdo with ⟨h, _⟩ | ⟨h, _⟩ | ⟨_, h⟩
            · cases h
            · cases h
            · exact .inr (.inr (.inl ⟨rfl, h⟩))
        obtain ⟨f', hs⟩ := hh.done hmo
        exact fin f' (hh.ok hx.kept hr' hfr hmo hs (by omega)).2 (hh.tb.trans h2)

/-! ### its name is taken away -/
theorem done_rem {T T1 : Tr} {p : ByteArray} (h : PDone T T1 (oRemove p)) : PPruned T T1 p := by
  rcases h with ⟨g, _⟩ | ⟨g, _⟩ | ⟨g, _⟩ | ⟨_, g⟩ | ⟨g, _⟩ | ⟨g, _⟩ | ⟨g, _⟩
  · simp [oRemove] at g
  · simp [oRemove] at g
  · simp [oRemove] at g
  · exact g
  · simp [oRemove] at g
  · simp [oRemove] at g
  · simp [oRemove] at g
/-- The program's Remove is made; c is its code. -/
def Om1 (E : Nat → Addr) (w : World) (tb rb fb yb k : Nat) (p : ByteArray) (c : Nat) (y : Value) (W : World) : Prop :=
  ∃ T T1 R f n d, Half w.heap.size W T T1 R f k (oRemove p) ∧ T.code (oRemove p) = c ∧ ((c ≠ 0 ∧ ∃ L a, y = failV a ∧ Failed E L W a c) ∨ (c = 0 ∧ y = .nilIface)) ∧ T.tb = tb ∧ R.tb = rb ∧ Below w.heap.size w W ∧ T1.nd n = some d ∧ d.dir = false ∧ OpenFile tb n W fb ∧ w.heap.size ≤ fb ∧ f n = yb
theorem om_remove {W : World} (hE : ∀ W, Below w.heap.size w W → Ctx E w.heap.size W) (p : ByteArray) (hp : p.size ≤ 9223372036854775807) (h : Of0 w tb rb fb yb k L c W) :
    Calls Tryz.prog 19 #[.pointer (some ⟨tb, 0, none⟩), .string p] W fun e w' => ∃ y cr, e = .returned y ∧ cr ≤ 21 ∧ Om1 E w tb rb fb yb k p cr y w' := by
  obtain ⟨T, R, f, n, d, h1, h2, h3, h4, h5, h6, h7, h8, h9, h10, h11⟩ := id h
  have hr := remove_any p W (hE W h4) h1.rep h1.ti h1.num hp
  rw [h2] at hr
  refine hr.mono fun e w' hx => ?_
  have hx : TAns E w.heap.size W T (T.code (oRemove p)) (fun T' => PDone T T' (oRemove p)) e w' := hx.mono rfl (fun _ h => .inr (.inr (.inr (.inl ⟨rfl, h⟩))))
  obtain ⟨T1, hh, ht, hb⟩ := h1.half hx
  have hkc : KeepC W w' := by
    rcases hx with ⟨_, a, _, _, hb⟩ | ⟨_, _, T', _, hk, _⟩
    · exact KeepC.of_below hb
    · exact KeepC.of_tree h1.rep hk
  have hfile : ∃ d', T1.nd n = some d' ∧ d'.dir = false := by
    rcases hh.case with ⟨_, rfl⟩ | ⟨_, hd⟩
    · exact ⟨d, h5, h6⟩
    · have g := done_rem hd
      obtain ⟨d', g1, g2, _⟩ := g.file h5 h6
      exact ⟨d', g1, g2⟩
  obtain ⟨d', hd', hdir'⟩ := hfile
  have hcl := code_le T (oRemove p)
  rcases ht with ⟨h0, a, he, hf, hb'⟩ | ⟨h0, he⟩
  · exact ⟨failV a, _, he, hcl, T, T1, R, f, n, d', hh, rfl, .inl ⟨h0, _, a, rfl, hf⟩, h2, h3, h4.trans hb, hd', hdir', h8.keep hkc, h9, h10⟩
  · exact ⟨.nilIface, _, he, hcl, T, T1, R, f, n, d', hh, rfl, .inr ⟨h0, rfl⟩, h2, h3, h4.trans hb, hd', hdir', h8.keep hkc, h9, h10⟩
theorem om_tell {W : World} (hE : ∀ W, Below w.heap.size w W → Ctx E w.heap.size W) (hY : ∀ W, Below w.heap.size w W → Ety w.heap.size W) {p : ByteArray} {cr : Nat} {y : Value} (hc : cr ≤ 21) (h : Om1 E w tb rb fb yb k p cr y W) :
    Calls Tryz.prog 29 #[y] W fun e w' => e = .returned (codeV cr) ∧ Om1 E w tb rb fb yb k p cr y w' := by
  obtain ⟨T, T1, R, f, n, d, h1, h2, h3, h4, h5, h6, h7, h8, h9, h10⟩ := h
  have nx : ∀ w', Below W.heap.size W w' → Om1 E w tb rb fb yb k p cr y w' := fun w' hb => ⟨T, T1, R, f, n, d, h1.below hb, h2, h3.imp (fun ⟨g, L, a, g1, g2⟩ => ⟨g, L, a, g1, g2.below hb⟩) id, h4, h5, h6.trans (hb.mono h1.base), h7, h8, h9.below hb, h10⟩
  rcases id h3 with ⟨h0, L, a, rfl, hf⟩ | ⟨rfl, rfl⟩
  · rw [codeV_pos h0]
    exact (tell_failed W (hE W h6).env (hY W h6) a cr (by omega) hc hf).mono fun e w' ⟨he, hb⟩ => ⟨he, nx w' hb⟩
  · exact (tell_nil W).mono fun e w' ⟨he, hb⟩ => ⟨he, nx w' hb⟩
theorem om_rremove {W : World} (hk : k ≤ 70000) {p : ByteArray} (hp : p.size ≤ 9223372036854775807) {cr : Nat} {y : Value} (h : Om1 E w tb rb fb yb k p cr y W) :
    Calls Tryz.prog 44 #[.pointer (some ⟨rb, 0, none⟩), .string p] W fun e w' => e = .returned (codeV cr) ∧ ∃ L' c', Of0 w tb rb fb yb (k + 1) L' c' w' := by
  obtain ⟨T, T1, R, f, n, d, h1, h2, h3, h4, h5, h6, h7, h8, h9, h10, h11⟩ := h
  have hr := ref_remove p W h1.rrep h1.rn.rb hp
  rw [h5] at hr
  refine hr.mono fun e w' hx => ?_
  have hkc : KeepC W w' := KeepC.of_ref h1.rrep hx.kept
  have hbl : Below w.heap.size w w' := h6.trans (hx.kept.below (B := w.heap.size) h1.rrep.low h1.base)
  rcases hx.parts with ⟨x, h0, he, hrr, hno⟩ | ⟨he, R', hrr, htb, hfr, hdo⟩
  · obtain ⟨q1, q2, q3⟩ := h1.err hx.kept hrr (.inr (.inr (.inr (.inl ⟨rfl, hno⟩)))) h0
    rw [q2] at h7
    exact ⟨by rw [he, ← h2, q1, codeV_pos h0], d.data, T.clock, T, R, f, n, d, q3.mono (Nat.le_succ _), h4, h5, hbl, h7, h8, rfl, h9.keep hkc, h10, h11, rfl⟩
  · have hmo : MOk R R' (oRemove p) := .inr (.inr (.inr (.inl ⟨rfl, hdo⟩)))
    have hcode := h1.sim.code_ok h1.ti.tw hmo
    have hpr : PPruned T T1 p := by
      rcases h1.case with ⟨g, _⟩ | ⟨_, hd⟩
      · exact absurd hcode g
      · exact done_rem hd
    obtain ⟨q1, q2⟩ := h1.ok hx.kept hrr hfr hmo (h1.sim.step_rem h1.ti.tw hpr hdo) (by omega)
    exact ⟨by rw [he, ← h2, q1]; rfl, d.data, T1.clock, T1, R', f, n, d, q2, h1.tb.trans h4, htb.trans h5, hbl, h7, h8, rfl, h9.keep hkc, h10, h11, rfl⟩

/-! ### a file without a name -/
def nodeW (W : World) : World := W.alloc (.cells #[.bool false, .slice none 0 0, .int .i64 0] 86)
theorem of_temp {W : World} (h : MI w tb rb k W) : Calls Tryz.prog 43 #[.pointer (some ⟨tb, 0, none⟩)] W fun e w' => ∃ fb, e = .returned (.pointer (some ⟨fb, 0, none⟩)) ∧ ∃ n, Of0 w tb rb fb w'.heap.size k [] n (nodeW w') := by
  obtain ⟨T, R, f, h1, h2, h3, h4⟩ := h
  refine (temp_ok tb W).mono fun e w' ⟨he, hw⟩ => ⟨_, he, T.clock, ?_⟩
  have hb1 : Below W.heap.size W w' := by rw [hw]; exact tempW_below W tb
  have hn : w'.heap[W.heap.size]? = some (.cells #[.bool false, .slice none 0 0, .map none, .int .i64 0, .int .i64 0] 126 (0, 0)) := by rw [hw]; exact tempW_node W tb
  have hf : OpenFile tb W.heap.size w' (W.heap.size + 1) := by unfold OpenFile; rw [hw]; exact tempW_file W tb
  have hb3 : Below w'.heap.size w' (nodeW w') := below_alloc w' _
  have hbo := h1.tempd hb1 (Nat.le_refl _) hn (Below.refl _ w') hb3 (Nat.le_refl _) (heap_alloc_new w' _)
  exact ⟨_, _, _, W.heap.size, tempNd, hbo, h2, h3, (h4.trans (hb1.mono h1.base)).trans (hb3.mono (Nat.le_trans h1.base hb1.size)), if_pos rfl, rfl, rfl, hf.below hb3, by have := h1.base; omega, upd_k _ _ _, rfl⟩
end
end Go.Proofs.YtjhojohjegkinaaGreatDoor
