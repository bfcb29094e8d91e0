/-
  What a call told, as fault.Tell tells it; both trees while the laws compare them.
-/
import Derived.Test.YtjhojohjegkinaaGreatDoorBothA
import Derived.Test.YtjhojohjegkinaaGreatDoorNames
import Derived.Test.YtjhojohjegkinaaGreatDoorTell
import Derived.Laws.StructEq
namespace Go.Proofs.YtjhojohjegkinaaGreatDoor
open Go Go.RowKit

theorem Ety.raise {B : Nat} {w : World} (h : Ety B w) : Ety w.heap.size w := ⟨h.cell, Nat.lt_of_lt_of_le h.low h.size, Nat.le_refl _⟩

/-! ### codes as faults -/
def codeV (c : Nat) : Value := if c = 0 then flt0 else fltV c
theorem codeV_pos {c : Nat} (h : c ≠ 0) : codeV c = fltV c := if_neg h
theorem fault_eql (a b c : Int) (w : World) : (binOp .eql 56 (.agg #[.int .i64 a, .int .i64 b, .int .i64 c]) (.agg #[.int .i64 a, .int .i64 b, .int .i64 c])).run Tryz.prog w = .ok (.bool true) w := by
  simp [go_sem]
theorem fault_neq (a b c : Int) (w : World) : (binOp .neq 56 (.agg #[.int .i64 a, .int .i64 b, .int .i64 c]) (.agg #[.int .i64 a, .int .i64 b, .int .i64 c])).run Tryz.prog w = .ok (.bool false) w := by
  simp [go_sem]
theorem codeV_neq (c : Nat) (w : World) : (binOp .neq 56 (codeV c) (codeV c)).run Tryz.prog w = .ok (.bool false) w := by
  unfold codeV
  split
  · exact fault_neq _ _ _ w
  · exact fault_neq _ _ _ w
theorem codeV_eql (c : Nat) (w : World) : (binOp .eql 56 (codeV c) (codeV c)).run Tryz.prog w = .ok (.bool true) w := by
  unfold codeV
  split
  · exact fault_eql _ _ _ w
  · exact fault_eql _ _ _ w
theorem codeV_guard_neq (c : Nat) (x y : Operand) (w : World) : (eqGuard .neq 56 x y (codeV c) (codeV c)).run Tryz.prog w = .ok () w := by
  unfold codeV
  split
  · simp [flt0, go_sem]
  · simp [fltV, go_sem]
theorem codeV_guard_eql (c : Nat) (x y : Operand) (w : World) : (eqGuard .eql 56 x y (codeV c) (codeV c)).run Tryz.prog w = .ok () w := by
  unfold codeV
  split
  · simp [flt0, go_sem]
  · simp [fltV, go_sem]
theorem cMkdir_le (T : Tr) (s : ByteArray) : T.cMkdir s ≤ 21 := by
  unfold Tr.cMkdir
  cases h : T.find s with
  | error c => rcases find_err_ne h with e | e <;> (dsimp only; omega)
  | ok sp =>
    dsimp only
    cases sp.n with
    | some k => dsimp only; omega
    | none => dsimp only; split <;> omega
theorem cWrite_le (T : Tr) (s : ByteArray) (b : List UInt8) (add : Bool) : T.cWrite s b add ≤ 21 := by
  unfold Tr.cWrite
  cases h : T.find s with
  | error c => rcases find_err_ne h with e | e <;> (dsimp only; omega)
  | ok sp =>
    dsimp only
    cases sp.n with
    | none => dsimp only; split <;> omega
    | some k =>
      dsimp only
      cases T.nd k with
      | none => dsimp only; omega
      | some d =>
        dsimp only
        split
        · omega
        · split <;> omega
theorem cRemove_le (T : Tr) (s : ByteArray) : T.cRemove s ≤ 21 := by
  unfold Tr.cRemove
  cases h : T.find s with
  | error c => rcases find_err_ne h with e | e <;> (dsimp only; omega)
  | ok sp =>
    dsimp only
    cases sp.n with
    | none => dsimp only; omega
    | some k =>
      dsimp only
      cases sp.inn with
      | none => dsimp only; omega
      | some i =>
        dsimp only
        cases T.nd k with
        | none => dsimp only; omega
        | some d => dsimp only; split <;> omega
theorem cLink_le (T : Tr) (old s : ByteArray) : T.cLink old s ≤ 21 := by
  unfold Tr.cLink
  cases h : T.fileOf old with
  | error c => rcases fileOf_err h with e | e | e <;> (dsimp only; omega)
  | ok k =>
    dsimp only
    cases h : T.find s with
    | error c => rcases find_err_ne h with e | e <;> (dsimp only; omega)
    | ok sp =>
      dsimp only
      cases sp.n with
      | some k => dsimp only; omega
      | none => dsimp only; omega
theorem code_le (T : Tr) (o : AOp) : T.code o ≤ 21 := by
  unfold Tr.code
  repeat' split
  · exact cMkdir_le _ _
  · exact cWrite_le _ _ _ _
  · exact cWrite_le _ _ _ _
  · exact cRemove_le _ _
  · exact cLink_le _ _ _
  · exact cWrite_le _ _ _ _
  · exact cWrite_le _ _ _ _
/-- fault.Tell of what a call told. -/
theorem terr_tell {E : Nat → Addr} {B : Nat} {w w1 W : World} {c : Nat} {y : Value} (h : (c ≠ 0 ∧ TErr E w c (.returned y) w1) ∨ (c = 0 ∧ Ending.returned y = .returned .nilIface)) (hc : c ≤ 21) (hb : Below w1.heap.size w1 W) (hE : Env E B W) (hY : Ety B W) :
    Calls Tryz.prog 29 #[y] W fun e w' => VPost W (codeV c) e w' := by
  rcases h with ⟨h0, a, he, hf, _⟩ | ⟨rfl, he⟩
  · cases he
    rw [codeV_pos h0]
    exact tell_failed W hE hY a c (by omega) hc (hf.below hb)
  · cases he
    exact tell_nil W

/-! ### the texts -/
theorem Both.rtxt {B n : Nat} {w : World} {T : Tr} {R : RT} {f : Nat → Nat} (h : Both B w T R f n) (hn : n ≤ 80000) : RTxT R := by
  have hl := h.rn.len
  refine ⟨by omega, fun e he d hd => ?_, fun e he => h.rn.rb.paths e he, ?_⟩
  · obtain ⟨r, m, d', h1, h2, _, _, h3, h4⟩ := h.sim.dirs_tick h.ti.tw e he
    rw [hd] at h1
    obtain rfl := Option.some.inj h1
    have h5 := h.ti.num m d' h2
    have h6 := h.num.clk1
    have h7 := h.ti.data m d' h2
    rw [h4, h3]
    exact ⟨h5.1, by omega, h7⟩
  · rw [← h.txt_same]
    exact h.txt_len (by omega)
theorem Both.rtext {B B0 n : Nat} {w : World} {T : Tr} {R : RT} {f : Nat → Nat} (h : Both B w T R f n) (hn : n ≤ 80000) (ht : TabB B0 w) (h0 : B0 ≤ w.heap.size) :
    Calls Tryz.prog 39 #[.pointer (some ⟨R.tb, 0, none⟩)] w fun e w' => VPost w (.string ⟨T.txt.toArray⟩) e w' := by
  rw [h.txt_same]
  exact ref_text w h.rrep (h.rtxt hn) ht h0

/-! ### a call at both, step by step -/
section
variable {E : Nat → Addr} {w : World} {tb rb k : Nat}
def Pl0 (w : World) (tb rb k : Nat) (T : Tr) (R : RT) (f : Nat → Nat) (W : World) : Prop := Both w.heap.size W T R f k ∧ T.tb = tb ∧ R.tb = rb ∧ Below w.heap.size w W
def Pl1 (E : Nat → Addr) (w : World) (tb rb k : Nat) (T : Tr) (R : RT) (f : Nat → Nat) (o : AOp) (y : Value) (W : World) : Prop :=
  ∃ T1 w0 w1, Half w.heap.size W T T1 R f k o ∧ Told E w0 T o (.returned y) w1 ∧ Below w1.heap.size w1 W ∧ T.tb = tb ∧ R.tb = rb ∧ Below w.heap.size w W
def Pl2 (w : World) (tb rb k : Nat) (s : ByteArray) (c : Int) (W : World) : Prop :=
  ∃ T1 R1 f1, Both w.heap.size W T1 R1 f1 k ∧ T1.tb = tb ∧ R1.tb = rb ∧ Below w.heap.size w W ∧ s = ⟨T1.txt.toArray⟩ ∧ c = T1.clock
theorem Pl0.next {T : Tr} {R : RT} {f : Nat → Nat} {W W' : World} (h : Pl0 w tb rb k T R f W) (hb : Below W.heap.size W W') : Pl0 w tb rb k T R f W' := by
  obtain ⟨h1, h2, h3, h4⟩ := h
  exact ⟨h1.below hb, h2, h3, h4.trans (hb.mono h1.base)⟩
theorem Pl1.next {T : Tr} {R : RT} {f : Nat → Nat} {o : AOp} {y : Value} {W W' : World} (h : Pl1 E w tb rb k T R f o y W) (hb : Below W.heap.size W W') : Pl1 E w tb rb k T R f o y W' := by
  obtain ⟨T1, w0, w1, h1, h2, h3, h4, h5, h6⟩ := h
  exact ⟨T1, w0, w1, h1.below hb, h2, h3.trans (hb.mono h3.size), h4, h5, h6.trans (hb.mono h1.base)⟩
theorem Pl2.next {s : ByteArray} {c : Int} {W W' : World} (h : Pl2 w tb rb k s c W) (hb : Below W.heap.size W W') : Pl2 w tb rb k s c W' := by
  obtain ⟨T1, R1, f1, h1, h2, h3, h4, h5, h6⟩ := h
  exact ⟨T1, R1, f1, h1.below hb, h2, h3, h4.trans (hb.mono h1.base), h5, h6⟩
theorem Pl0.drew {T : Tr} {R : RT} {f : Nat → Nat} {W : World} (h : Pl0 w tb rb k T R f W) : Pl0 w tb rb k T R f W.drew := h.next (Below.refl _ _).drew
theorem Pl1.drew {T : Tr} {R : RT} {f : Nat → Nat} {o : AOp} {y : Value} {W : World} (h : Pl1 E w tb rb k T R f o y W) : Pl1 E w tb rb k T R f o y W.drew := h.next (Below.refl _ _).drew
theorem Pl2.drew {s : ByteArray} {c : Int} {W : World} (h : Pl2 w tb rb k s c W) : Pl2 w tb rb k s c W.drew := h.next (Below.refl _ _).drew
theorem Pl2.cell {s : ByteArray} {c : Int} {W : World} (h : Pl2 w tb rb k s c W) : W.cell? ⟨rb, 1, none⟩ = some (.int .i64 c) := by
  obtain ⟨T1, R1, f1, h1, h2, h3, h4, h5, h6⟩ := h
  rw [← h3, h6, ← h1.sim.now]
  exact cell_of (o := 1) h1.rrep.tree rfl
theorem Pl1.low {T : Tr} {R : RT} {f : Nat → Nat} {o : AOp} {y : Value} {W : World} (h : Pl1 E w tb rb k T R f o y W) : Below w.heap.size w W := h.choose_spec.choose_spec.choose_spec.2.2.2.2.2
theorem Pl2.low {s : ByteArray} {c : Int} {W : World} (h : Pl2 w tb rb k s c W) : Below w.heap.size w W := h.choose_spec.choose_spec.choose_spec.2.2.2.1
theorem pl_tell {T : Tr} {R : RT} {f : Nat → Nat} {o : AOp} {y : Value} {W : World} (hE : ∀ W, Below w.heap.size w W → Ctx E w.heap.size W) (hY : ∀ W, Below w.heap.size w W → Ety w.heap.size W) (h : Pl1 E w tb rb k T R f o y W) :
    Calls Tryz.prog 29 #[y] W fun e w' => e = .returned (codeV (T.code o)) ∧ Pl1 E w tb rb k T R f o y w' := by
  obtain ⟨T1, w0, w1, h1, h2, h3, h4, h5, h6⟩ := id h
  exact (terr_tell h2 (code_le T o) h3 (hE W h6).env (hY W h6)).mono fun e w' ⟨he, hb⟩ => ⟨he, h.next hb⟩
theorem pl_text {s : ByteArray} {c : Int} {W : World} (hk : k ≤ 80000) (h : Pl2 w tb rb k s c W) : Calls Tryz.prog 14 #[.pointer (some ⟨tb, 0, none⟩)] W fun e w' => e = .returned (.string s) ∧ Pl2 w tb rb k s c w' := by
  obtain ⟨T1, R1, f1, h1, h2, h3, h4, h5, h6⟩ := id h
  have := h1.text (by omega)
  rw [h2] at this
  exact this.mono fun e w' ⟨he, hb⟩ => ⟨by rw [he, h5], h.next hb⟩
theorem pl_rtext {s : ByteArray} {c : Int} {B0 : Nat} {W : World} (hk : k ≤ 80000) (ht : ∀ W, Below w.heap.size w W → TabB B0 W) (h0 : B0 ≤ w.heap.size) (h : Pl2 w tb rb k s c W) : Calls Tryz.prog 39 #[.pointer (some ⟨rb, 0, none⟩)] W fun e w' => e = .returned (.string s) ∧ Pl2 w tb rb k s c w' := by
  obtain ⟨T1, R1, f1, h1, h2, h3, h4, h5, h6⟩ := id h
  have := h1.rtext hk (ht W h4) (Nat.le_trans h0 h4.size)
  rw [h3] at this
  exact this.mono fun e w' ⟨he, hb⟩ => ⟨by rw [he, h5], h.next hb⟩
theorem pl_now {s : ByteArray} {c : Int} {W : World} (h : Pl2 w tb rb k s c W) : Calls Tryz.prog 15 #[.pointer (some ⟨tb, 0, none⟩)] W fun e w' => e = .returned (.int .i64 c) ∧ Pl2 w tb rb k s c w' := by
  obtain ⟨T1, R1, f1, h1, h2, h3, h4, h5, h6⟩ := id h
  have := tree_now T1.tb _ _ T1.clock W h1.rep.tree
  rw [h2] at this
  exact this.mono fun e w' ⟨he, hw⟩ => ⟨by rw [he, h6], hw ▸ h⟩
theorem pl_do {T : Tr} {R : RT} {f : Nat → Nat} {W : World} (hE : ∀ W, Below w.heap.size w W → Ctx E w.heap.size W) {act : Int} {xp xq : ByteArray} {dat : List UInt8} {b o : Nat} {xa : Option Addr} {xc : Nat} (hin : OpIn w b o act xp xq dat xa xc) (hox : OpOk ⟨act, xp, xq, dat⟩) (hs : 0 ≤ act ∧ act ≤ 6) (h : Pl0 w tb rb k T R f W) :
    Calls Tryz.prog 28 #[.pointer (some ⟨tb, 0, none⟩), .agg #[.int .i64 act, .string xp, .string xq, .slice xa dat.length xc]] W fun e w' => ∃ y, e = .returned y ∧ Pl1 E w tb rb k T R f (OpA.op ⟨act, xp, xq, dat⟩) y w' := by
  obtain ⟨h1, h2, h3, h4⟩ := h
  have hd := do_any (OpA.op ⟨act, xp, xq, dat⟩) (.slice xa dat.length xc) W (hE W h4) h1.rep h1.ti h1.num (by show act.toNat ≤ 6; omega) hox.path hox.other (hin.up h4).2.2.2.2 (fun h x hx hf => by
    have h1' := src_low4 hin.2.2.2.2 h x hx
    have h2' := h1.rep.low x hf
    omega)
  rw [← opAV_op (x := ⟨act, xp, xq, dat⟩) hs.1, h2] at hd
  refine hd.mono fun e w' hp => ?_
  obtain ⟨y, rfl, _⟩ := hp.plain
  obtain ⟨T1, hh, ht, hb⟩ := h1.half hp
  exact ⟨y, rfl, T1, W, w', hh, ht, Below.refl _ _, h2, h3, h4.trans hb⟩
theorem pl_model {T : Tr} {R : RT} {f : Nat → Nat} {W : World} {act : Int} {xp xq : ByteArray} {dat : List UInt8} {b o : Nat} {xa : Option Addr} {xc : Nat} (hin : OpIn w b o act xp xq dat xa xc) (hox : OpOk ⟨act, xp, xq, dat⟩) (hs : 0 ≤ act ∧ act ≤ 6) (hk : k ≤ 70000) {y : Value} (h : Pl1 E w tb rb k T R f (OpA.op ⟨act, xp, xq, dat⟩) y W) :
    Calls Tryz.prog 40 #[.pointer (some ⟨rb, 0, none⟩), .agg #[.int .i64 act, .string xp, .string xq, .slice xa dat.length xc]] W fun e w' => e = .returned (codeV (T.code (OpA.op ⟨act, xp, xq, dat⟩))) ∧ ∃ s c, Pl2 w tb rb (k + 1) s c w' := by
  obtain ⟨T1, w0, w1, h1, h2, h3, h4, h5, h6⟩ := id h
  have hl := h1.rn.len
  have hn := h1.rn.now
  have hdl : dat.length ≤ 140737488355328 := hox.data
  have hm := ref_model (OpA.op ⟨act, xp, xq, dat⟩) (.slice xa dat.length xc) W h1.rrep h1.rn.rb (by omega) (by omega) (by show act.toNat ≤ 6; omega) hox.path hox.other (hin.up h6).2.2.2.2 (by show dat.length ≤ _; omega) (fun n d hn => by have := h1.rn.data n d hn; show d.data.length + dat.length ≤ _; omega)
  rw [← opAV_op (x := ⟨act, xp, xq, dat⟩) hs.1, h5] at hm
  refine hm.mono fun e w' hp => ?_
  obtain ⟨R', f', hbo, hrb, htold, hb⟩ := h1.both hp (by omega)
  refine ⟨?_, _, _, T1, R', f', hbo, h1.tb.trans h4, hrb.trans h5, h6.trans hb, rfl, rfl⟩
  rcases htold with ⟨h0, he⟩ | ⟨h0, he⟩
  · rw [he, h0]; rfl
  · rw [he, codeV_pos h0]
end
end Go.Proofs.YtjhojohjegkinaaGreatDoor
