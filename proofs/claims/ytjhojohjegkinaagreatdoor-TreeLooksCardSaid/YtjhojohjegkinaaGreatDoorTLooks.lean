/-
  TreeLooks' walk.
-/
import Derived.Test.YtjhojohjegkinaaGreatDoorLook
import Derived.Test.YtjhojohjegkinaaGreatDoorAwake16
import Derived.Deep.RegionHeld3
namespace Go.Proofs.YtjhojohjegkinaaGreatDoor
open Go Go.RowKit

set_option maxRecDepth 100000 in
set_option maxHeartbeats 1000000 in
theorem strings_same {p q : Nat} (a b : Value) (l : List ByteArray) (w : World) (ha : StrsAt w p a l) (hb : StrsAt w q b l) (hll : l.length ≤ 4611686018427387904) :
    Calls Tryz.prog 33 #[a, b] w fun e w' => IPost w true e w' := by
  obtain ⟨aa, ac, rfl, _, hca⟩ := ha.form
  obtain ⟨ba, bc, rfl, _, hcb⟩ := hb.form
  have HA := Lib.hid hca
  have HB := Lib.hid hcb
  clear ha hb hca hcb
  go_enter Tryz.func33, Tryz.ntmps33
  go_wp2_with fail
  go_loopw [13] (fun idx wr => ∃ k : Nat, k ≤ l.length ∧ idx = .int .i64 k ∧ Hid (Below w.heap.size w wr)) (fun idx _ => l.length - (intOf idx).toNat)
  case atStart => exact ⟨0, by omega, rfl, Below.refl _ _⟩
  case round =>
    obtain ⟨k, hk, rfl, hb⟩ := hrel
    by_cases hlt : k < l.length
    · obtain ⟨g, rfl, _, hc1⟩ := HA.out k hlt
      obtain ⟨g', rfl, _, hc2⟩ := HB.out k hlt
      have hc1 := (hb.out.cell (World.block_lt_of_cell? _ _ hc1)).trans hc1
      have hc2 := (hb.out.cell (World.block_lt_of_cell? _ _ hc2)).trans hc2
      have hki : (k : Int) < l.length := by omega
      generalize l[k] = x at hc1 hc2
      go_wp2_with fail
      go_region
      all_goals
        go_wp2_with fail
        go_roundw
        case rel => exact ⟨k + 1, by omega, by go_num, hb.out.drew⟩
        case measure => simp [intOf]; omega
    · go_wp2_with fail
      go_ret
      exact ⟨rfl, hb.out⟩

/-! ### what an error tells -/
def Tl (E : Nat → Addr) (c : Nat) (y : Value) (W : World) : Prop := (c ≠ 0 ∧ ∃ L a, y = failV a ∧ Failed E L W a c) ∨ (c = 0 ∧ y = .nilIface)
theorem Tl.below {E : Nat → Addr} {c : Nat} {y : Value} {W W' : World} (h : Tl E c y W) (hb : Below W.heap.size W W') : Tl E c y W' := by
  rcases h with ⟨h, L, a, h1, h2⟩ | h
  · exact .inl ⟨h, L, a, h1, h2.below hb⟩
  · exact .inr h
def kG (c : Nat) : Int := if c = 0 then 0 else 11
theorem codeV_kg (c : Nat) : codeV c = .agg #[.int .i64 c, .int .i64 0, .int .i64 (kG c)] := by
  unfold codeV kG
  by_cases h : c = 0
  · rw [if_pos h, if_pos h, h]; rfl
  · rw [if_neg h, if_neg h]; rfl
theorem tl_tell {E : Nat → Addr} {B : Nat} {c : Nat} {y : Value} {W : World} (hE : Env E B W) (hY : Ety B W) (hc : c ≤ 21) (h : Tl E c y W) :
    Calls Tryz.prog 29 #[y] W fun e w' => e = .returned (codeV c) ∧ Below W.heap.size W w' := by
  rcases h with ⟨h1, L, a, rfl, h2⟩ | ⟨rfl, rfl⟩
  · rw [codeV_pos h1]
    exact (tell_failed W hE hY a c (by omega) hc h2).mono fun _ _ h => h
  · exact (tell_nil W).mono fun _ _ h => h
theorem stat_eql (a b c d : Int) (w : World) : (binOp .eql 30 (.agg #[.int .i64 a, .int .i64 b, .int .i64 c, .int .i64 d]) (.agg #[.int .i64 a, .int .i64 b, .int .i64 c, .int .i64 d])).run Tryz.prog w = .ok (.bool true) w := by
  simp [go_sem]
theorem stat_guard (a b c d : Int) (x y : Operand) (w : World) : (eqGuard .eql 30 x y (.agg #[.int .i64 a, .int .i64 b, .int .i64 c, .int .i64 d]) (.agg #[.int .i64 a, .int .i64 b, .int .i64 c, .int .i64 d])).run Tryz.prog w = .ok () w := by
  simp [go_sem]
theorem fault_guard (a b c : Int) (x y : Operand) (w : World) : (eqGuard .eql 56 x y (.agg #[.int .i64 a, .int .i64 b, .int .i64 c]) (.agg #[.int .i64 a, .int .i64 b, .int .i64 c])).run Tryz.prog w = .ok () w := by
  simp [go_sem]

/-! ### the six calls -/
section
variable {E : Nat → Addr} {B n : Nat} {T : Tr} {R : RT} {f : Nat → Nat} {W : World} (h : Both B W T R f n) (p : ByteArray) (hp : p.size ≤ 9223372036854775807)
include h hp
theorem look_read (hE : Ctx E B W) : Calls Tryz.prog 23 #[.pointer (some ⟨T.tb, 0, none⟩), .string p] W fun e w' => ∃ va vc y, e = .returned (.tuple #[.slice va (T.dRead p).length vc, y]) ∧ Src w' (.slice va (T.dRead p).length vc) (T.dRead p) ∧ Tl E (T.cRead p) y w' ∧ Below W.heap.size W w' := by
  refine (read_any p W hE h.rep h.ti hp).mono fun e w' hx => ?_
  rcases hx with ⟨h0, a, he, hf, hb⟩ | ⟨h0, v, he, hown, hb⟩
  · have hd : T.dRead p = [] := by
      unfold Tr.dRead
      unfold Tr.cRead at h0
      cases hfo : T.fileOf p with
      | error c => rfl
      | ok k => rw [hfo] at h0; exact absurd rfl h0
    rw [hd]
    exact ⟨none, 0, _, he, .inl ⟨rfl, rfl⟩, .inl ⟨h0, _, a, rfl, hf⟩, hb⟩
  · obtain ⟨va, vc, rfl⟩ := owns_form hown
    exact ⟨va, vc, _, he, Src.of_owns hown, .inr ⟨h0, rfl⟩, hb⟩
theorem look_rread : Calls Tryz.prog 30 #[.pointer (some ⟨R.tb, 0, none⟩), .string p] W fun e w' => ∃ va vc, e = .returned (.tuple #[.slice va (T.dRead p).length vc, codeV (T.cRead p)]) ∧ Src w' (.slice va (T.dRead p).length vc) (T.dRead p) ∧ Below W.heap.size W w' := by
  refine (ref_read p W h.rrep h.rn.rb hp (fun n d hn => by have := h.rn.data n d hn; omega)).mono fun e w' hx => ?_
  rcases hx.case with ⟨c, h0, he, hno⟩ | ⟨k, d, v, hif, he, hs⟩
  · have hf := h.sim.no_file h.ti.tw hno
    have h1 : T.cRead p = c := by unfold Tr.cRead; rw [hf]
    have h2 : T.dRead p = [] := by unfold Tr.dRead; rw [hf]
    rw [h1, h2, codeV_pos h0]
    exact ⟨none, 0, he, .inl ⟨rfl, rfl⟩, hx.below⟩
  · obtain ⟨k', d', q1, q2, q3, q4, q5, q6, q7⟩ := h.sim.is_file h.ti.tw hif
    have h1 : T.cRead p = 0 := by unfold Tr.cRead; rw [q1]
    have h2 : T.dRead p = d.data := by unfold Tr.dRead; rw [q1]; dsimp only; rw [q3]; exact q5
    rw [h1, h2]
    have hv : ∃ va vc, v = .slice va d.data.length vc := by
      rcases hs with ⟨h1, h2⟩ | ⟨ad, c, h1, _⟩
      · exact ⟨none, 0, by rw [h1, h2]; rfl⟩
      · exact ⟨_, _, h1⟩
    obtain ⟨va, vc, rfl⟩ := hv
    exact ⟨va, vc, he, hs, hx.below⟩
omit h hp in
theorem vStat_no (h0 : T.cStat p ≠ 0) : T.vStat p = statV 0 0 0 0 := by
  unfold Tr.vStat
  unfold Tr.cStat at h0
  cases hf : T.find p with
  | error c => rfl
  | ok s =>
    rw [hf] at h0
    dsimp only at h0 ⊢
    cases hn : s.n with
    | none => rfl
    | some k => rw [hn] at h0; exact absurd rfl h0
theorem look_stat (hE : Ctx E B W) : Calls Tryz.prog 16 #[.pointer (some ⟨T.tb, 0, none⟩), .string p] W fun e w' => ∃ y, e = .returned (.tuple #[T.vStat p, y]) ∧ Tl E (T.cStat p) y w' ∧ Below W.heap.size W w' := by
  refine (stat_any p W hE h.rep h.ti hp).mono fun e w' hx => ?_
  rcases hx with ⟨h0, a, he, hf, hb⟩ | ⟨h0, he, hb⟩
  · rw [vStat_no p h0]
    exact ⟨_, he, .inl ⟨h0, _, a, rfl, hf⟩, hb⟩
  · exact ⟨_, he, .inr ⟨h0, rfl⟩, hb⟩
theorem look_rstat : Calls Tryz.prog 31 #[.pointer (some ⟨R.tb, 0, none⟩), .string p] W fun e w' => e = .returned (.tuple #[T.vStat p, codeV (T.cStat p)]) ∧ Below W.heap.size W w' := by
  refine (ref_stat p W h.rrep h.rn.rb hp).mono fun e w' hx => ?_
  rcases hx.case with ⟨c, h0, he, hno⟩ | ⟨l, k, d, q1, q2, q3, q4, he⟩
  · have h1 := h.sim.no_stat h.ti.tw hno
    have h2 := vStat_no (T := T) p (by rw [h1]; exact h0)
    rw [h1, h2, codeV_pos h0]
    exact ⟨he, hx.below⟩
  · obtain ⟨h1, h2⟩ := h.sim.is_stat h.ti.tw q1 q2 q3 q4
    rw [h1, h2]
    exact ⟨he, hx.below⟩
def lN (T : Tr) (p : ByteArray) : List ByteArray := (T.lNames p).map fun s => ⟨s.toArray⟩
omit h hp in
theorem lN_len (p : ByteArray) (hI : TI T) (hN : TNum T) : (lN T p).length ≤ 4611686018427387904 := by
  have key : (T.lNames p).length ≤ 4611686018427387904 := by
    unfold Tr.lNames
    cases hf : T.find p with
    | error c => exact Nat.zero_le _
    | ok s =>
      dsimp only
      cases hn : s.n with
      | none => exact Nat.zero_le _
      | some k =>
        dsimp only
        cases hd : T.nd k with
        | none => exact Nat.zero_le _
        | some d =>
          dsimp only
          split
          · rw [sortedNames_len]
            have h1 := hI.num k d hd
            have h2 := hN.clk1
            omega
          · exact Nat.zero_le _
  unfold lN
  rw [List.length_map]
  exact key
theorem look_list (hE : Ctx E B W) {m : Int} (hM : TM T m) (hm : m ≤ 1000000) : Calls Tryz.prog 22 #[.pointer (some ⟨T.tb, 0, none⟩), .string p] W fun e w' => ∃ v y, e = .returned (.tuple #[v, y]) ∧ StrsAt w' 0 v (lN T p) ∧ Tl E (T.cList p) y w' ∧ Below W.heap.size W w' := by
  refine (list_any p W hE h.rep h.ti hM hm hp).mono fun e w' hx => ?_
  rcases hx with ⟨h0, a, he, hf, hb⟩ | ⟨h0, v, he, hown, hb⟩
  · have hd : T.lNames p = [] := by
      unfold Tr.lNames
      unfold Tr.cList at h0
      cases hfo : T.find p with
      | error c => rfl
      | ok s =>
        rw [hfo] at h0
        dsimp only at h0 ⊢
        cases hn : s.n with
        | none => rfl
        | some k =>
          rw [hn] at h0
          dsimp only at h0 ⊢
          cases hd : T.nd k with
          | none => rfl
          | some d =>
            rw [hd] at h0
            dsimp only at h0 ⊢
            cases hdir : d.dir with
            | true => rw [hdir, if_pos rfl] at h0; exact absurd rfl h0
            | false => rw [if_neg (by decide)]
    exact ⟨_, _, he, .inl ⟨by unfold lN; rw [hd]; rfl, _, _, rfl⟩, .inl ⟨h0, _, a, rfl, hf⟩, hb⟩
  · exact ⟨v, _, he, StrsAt.of_owns (base := W.heap.size) (by unfold lN; rw [List.length_map, List.map_map]; exact hown) (Nat.zero_le _), .inr ⟨h0, rfl⟩, hb⟩
theorem look_rlist : Calls Tryz.prog 32 #[.pointer (some ⟨R.tb, 0, none⟩), .string p] W fun e w' => ∃ v, e = .returned (.tuple #[v, codeV (T.cList p)]) ∧ StrsAt w' 0 v (lN T p) ∧ Below W.heap.size W w' := by
  refine (ref_list p W h.rrep h.rn.rb hp).mono fun e w' hx => ?_
  rcases hx.case with ⟨c, h0, he, hno⟩ | ⟨l, k, d, v, q1, q2, q3, q4, q5, he, hs⟩
  · have h1 := h.sim.no_list h.ti.tw hno
    have hd : T.lNames p = [] := by
      unfold Tr.lNames
      unfold Tr.cList at h1
      cases hfo : T.find p with
      | error c => rfl
      | ok s =>
        rw [hfo] at h1
        dsimp only at h1 ⊢
        cases hn : s.n with
        | none => rfl
        | some k =>
          rw [hn] at h1
          dsimp only at h1 ⊢
          cases hd : T.nd k with
          | none => rfl
          | some d =>
            rw [hd] at h1
            dsimp only at h1 ⊢
            cases hdir : d.dir with
            | true => rw [hdir, if_pos rfl] at h1; exact absurd h1.symm h0
            | false => rw [if_neg (by decide)]
    rw [h1, codeV_pos h0]
    exact ⟨_, he, .inl ⟨by unfold lN; rw [hd]; rfl, _, _, rfl⟩, hx.below⟩
  · obtain ⟨k', d', j1, j2, j3, j4⟩ := h.sim.is_dir h.ti.tw q1 q3 q4 q5
    obtain ⟨l', hl1, hl2⟩ := j1.path
    have hcl : T.cList p = 0 ∧ T.lNames p = sortedNames d'.names := by
      obtain ⟨sp, g1, g2, g3⟩ := h.sim.find_good h.ti.tw q1 q2
      rw [q1] at hl1
      cases hl1
      unfold Tr.cList Tr.lNames
      rw [g1]
      dsimp only
      rw [g2, hl2]
      dsimp only
      rw [j1.nd]
      dsimp only
      rw [j1.dir, if_pos rfl, if_pos rfl]
      exact ⟨rfl, rfl⟩
    have hn : lN T p = kidsOf R.L (joinB l) := by
      unfold lN
      rw [hcl.2, ← j4, List.map_map]
      conv => rhs; rw [← List.map_id (kidsOf R.L (joinB l))]
      refine List.map_congr_left fun s _ => ?_
      exact (mkB_data s)
    rw [hcl.1, hn]
    exact ⟨v, he, StrsAt.of_owns hs.1 (Nat.zero_le _), hx.below⟩
end

set_option maxRecDepth 100000 in
set_option maxHeartbeats 8000000 in
theorem treeLooks_any {E : Nat → Addr} {B0 : Nat} (w : World) (hE : Ctx E B0 w) (hY : Ety B0 w) (va : Option Addr) (vc : Nat) (l : List OpA) (hl : OSrc w (.slice va l.length vc) l) (hll : l.length ≤ 9223372036854775807) (hok : ∀ x ∈ l, OpOk x) (p : ByteArray) (hp : p.size ≤ 9223372036854775807) :
    Calls Tryz.prog 7 #[.slice va l.length vc, .string p] w fun e w' => AwPost w e w' := by
  have HE : Hid (∀ W, Below w.heap.size w W → Ctx E w.heap.size W) := fun W hb => hE.raise.below hb
  have HY : Hid (∀ W, Below w.heap.size w W → Ety w.heap.size W) := fun W hb => hY.raise.below hb
  have HMADE := Lib.hid (made_any w hE _ l hl hok hll)
  clear hE hY hl hok hll
  go_enter Tryz.func7, Tryz.ntmps7
  go_wp2_with fail
  refine HMADE.out.mono ?_
  rintro e w1 ⟨T, R, f, rfl, hbo, hb1⟩
  have HB1 := Lib.hid hb1
  have H1 : Hid (∀ W, Below w1.heap.size w1 W → Calls Tryz.prog 23 #[.pointer (some ⟨T.tb, 0, none⟩), .string p] W fun e w' => ∃ va vc y, e = .returned (.tuple #[.slice va (T.dRead p).length vc, y]) ∧ Src w' (.slice va (T.dRead p).length vc) (T.dRead p) ∧ Tl E (T.cRead p) y w' ∧ Below W.heap.size W w') := fun W hb => look_read (hbo.below hb) p hp (HE.out W (below_trans HB1.out hb))
  have H2 : Hid (∀ W, Below w1.heap.size w1 W → Calls Tryz.prog 30 #[.pointer (some ⟨R.tb, 0, none⟩), .string p] W fun e w' => ∃ va vc, e = .returned (.tuple #[.slice va (T.dRead p).length vc, codeV (T.cRead p)]) ∧ Src w' (.slice va (T.dRead p).length vc) (T.dRead p) ∧ Below W.heap.size W w') := fun W hb => look_rread (hbo.below hb) p hp
  have H3 : Hid (∀ W, Below w1.heap.size w1 W → Calls Tryz.prog 16 #[.pointer (some ⟨T.tb, 0, none⟩), .string p] W fun e w' => ∃ y, e = .returned (.tuple #[T.vStat p, y]) ∧ Tl E (T.cStat p) y w' ∧ Below W.heap.size W w') := fun W hb => look_stat (hbo.below hb) p hp (HE.out W (below_trans HB1.out hb))
  have H4 : Hid (∀ W, Below w1.heap.size w1 W → Calls Tryz.prog 31 #[.pointer (some ⟨R.tb, 0, none⟩), .string p] W fun e w' => e = .returned (.tuple #[T.vStat p, codeV (T.cStat p)]) ∧ Below W.heap.size W w') := fun W hb => look_rstat (hbo.below hb) p hp
  have H5 : Hid (∀ W, Below w1.heap.size w1 W → Calls Tryz.prog 22 #[.pointer (some ⟨T.tb, 0, none⟩), .string p] W fun e w' => ∃ v y, e = .returned (.tuple #[v, y]) ∧ StrsAt w' 0 v (lN T p) ∧ Tl E (T.cList p) y w' ∧ Below W.heap.size W w') := fun W hb => look_list (hbo.below hb) p hp (HE.out W (below_trans HB1.out hb)) (hbo.tm (by decide)) (by decide)
  have H6 : Hid (∀ W, Below w1.heap.size w1 W → Calls Tryz.prog 32 #[.pointer (some ⟨R.tb, 0, none⟩), .string p] W fun e w' => ∃ v, e = .returned (.tuple #[v, codeV (T.cList p)]) ∧ StrsAt w' 0 v (lN T p) ∧ Below W.heap.size W w') := fun W hb => look_rlist (hbo.below hb) p hp
  have HC : Hid (T.cRead p ≤ 21 ∧ T.cStat p ≤ 21 ∧ T.cList p ≤ 21) := by
    refine ⟨?_, ?_, ?_⟩
    · unfold Tr.cRead
      cases h : T.fileOf p with
      | error c => rcases fileOf_err h with e | e | e <;> (dsimp only; omega)
      | ok k => dsimp only; omega
    · unfold Tr.cStat
      cases h : T.find p with
      | error c => rcases find_err_ne h with e | e <;> (dsimp only; omega)
      | ok s => dsimp only; cases s.n <;> dsimp only <;> omega
    · unfold Tr.cList
      cases h : T.find p with
      | error c => rcases find_err_ne h with e | e <;> (dsimp only; omega)
      | ok s =>
        dsimp only
        cases s.n with
        | none => dsimp only; omega
        | some k =>
          dsimp only
          cases T.nd k with
          | none => dsimp only; omega
          | some d => dsimp only; split <;> omega
  have HLN : Hid ((lN T p).length ≤ 4611686018427387904) := lN_len p hbo.ti hbo.num
  have KT1 : Hid (∀ y W0, Tl E (T.cRead p) y W0 → ∀ W, Below W0.heap.size W0 W → Below w.heap.size w W → Calls Tryz.prog 29 #[y] W fun e w' => e = .returned (codeV (T.cRead p)) ∧ Below W.heap.size W w') := fun y W0 h0 W hb hw => tl_tell (HE.out W hw).env (HY.out W hw) HC.out.1 (h0.below hb)
  have KT2 : Hid (∀ y W0, Tl E (T.cStat p) y W0 → ∀ W, Below W0.heap.size W0 W → Below w.heap.size w W → Calls Tryz.prog 29 #[y] W fun e w' => e = .returned (codeV (T.cStat p)) ∧ Below W.heap.size W w') := fun y W0 h0 W hb hw => tl_tell (HE.out W hw).env (HY.out W hw) HC.out.2.1 (h0.below hb)
  have KT3 : Hid (∀ y W0, Tl E (T.cList p) y W0 → ∀ W, Below W0.heap.size W0 W → Below w.heap.size w W → Calls Tryz.prog 29 #[y] W fun e w' => e = .returned (codeV (T.cList p)) ∧ Below W.heap.size W w') := fun y W0 h0 W hb hw => tl_tell (HE.out W hw).env (HY.out W hw) HC.out.2.2 (h0.below hb)
  obtain ⟨x0, x1, x2, x3, hvs⟩ := vStat_form T p
  rw [hvs] at H3 H4
  have hfe := fault_eql
  have hfg := fault_guard
  have hse := stat_eql
  have hsg := stat_guard
  simp only [statV] at H3 H4
  rw [codeV_kg] at H2 H4 H6 KT1 KT2 KT3
  clear hbo hb1 hvs HMADE hp
  generalize T.cRead p = c1 at *
  generalize T.cStat p = c2 at *
  generalize T.cList p = c3 at *
  generalize kG c1 = k1 at *
  generalize kG c2 = k2 at *
  generalize kG c3 = k3 at *
  generalize T.dRead p = bs at *
  generalize lN T p = ns at *
  go_wp2_with fail
  refine (H1.out w1 (Below.refl _ _)).mono ?_
  rintro e w2 ⟨va1, vc1, y1, rfl, hs1, ht1, hb⟩
  have B12 := Lib.hid hb
  have HS1 := Lib.hid hs1
  have HT1 := Lib.hid ht1
  clear hb hs1 ht1
  go_wp2_with fail
  refine (H2.out w2 B12.out).mono ?_
  rintro e w3 ⟨va2, vc2, rfl, hs2, hb⟩
  have B23 := Lib.hid hb
  have HS2 := Lib.hid hs2
  have A3 := Lib.hid (below_trans B12.out hb)
  clear hb hs2
  go_wp2_with fail
  have B34 := Lib.hid (below_alloc w3 (.cells #[.int .i64 c1, .int .i64 0, .int .i64 k1] 56))
  have Q1 := Lib.hid (heap_alloc_new w3 (.cells #[.int .i64 c1, .int .i64 0, .int .i64 k1] 56))
  generalize w3.alloc (.cells #[.int .i64 c1, .int .i64 0, .int .i64 k1] 56) = w4 at *
  have A4 := Lib.hid (below_trans A3.out B34.out)
  obtain ⟨q1, hq1⟩ : ∃ q1, q1 = w3.heap.size := ⟨_, rfl⟩
  rw [← hq1] at Q1 ⊢
  clear hq1
  refine (H3.out w4 A4.out).mono ?_
  rintro e w5 ⟨y2, rfl, ht2, hb⟩
  have B45 := Lib.hid hb
  have HT2 := Lib.hid ht2
  have A5 := Lib.hid (below_trans A4.out hb)
  clear hb ht2
  go_wp2_with fail
  have B56 := Lib.hid (below_alloc w5 (.cells #[.int .i64 x0, .int .i64 x1, .int .i64 x2, .int .i64 x3] 30))
  have Q2 := Lib.hid (heap_alloc_new w5 (.cells #[.int .i64 x0, .int .i64 x1, .int .i64 x2, .int .i64 x3] 30))
  generalize w5.alloc (.cells #[.int .i64 x0, .int .i64 x1, .int .i64 x2, .int .i64 x3] 30) = w6 at *
  have A6 := Lib.hid (below_trans A5.out B56.out)
  obtain ⟨q2, hq2⟩ : ∃ q2, q2 = w5.heap.size := ⟨_, rfl⟩
  rw [← hq2] at Q2 ⊢
  clear hq2
  refine (H4.out w6 A6.out).mono ?_
  rintro e w7 ⟨rfl, hb⟩
  have B67 := Lib.hid hb
  have A7 := Lib.hid (below_trans A6.out hb)
  clear hb
  go_wp2_with fail
  have hsz8 : (w7.alloc (.cells #[.int .i64 x0, .int .i64 x1, .int .i64 x2, .int .i64 x3] 30)).heap.size = w7.heap.size + 1 := by simp
  have B78 := Lib.hid (below_two w7 (.cells #[.int .i64 x0, .int .i64 x1, .int .i64 x2, .int .i64 x3] 30) (.cells #[.int .i64 c2, .int .i64 0, .int .i64 k2] 56))
  have Q3 : Hid (((w7.alloc (.cells #[.int .i64 x0, .int .i64 x1, .int .i64 x2, .int .i64 x3] 30)).alloc (.cells #[.int .i64 c2, .int .i64 0, .int .i64 k2] 56)).heap[w7.heap.size]? = some (.cells #[.int .i64 x0, .int .i64 x1, .int .i64 x2, .int .i64 x3] 30 (0, 0))) := (Below.heap_alloc _ _ _ (by rw [hsz8]; exact Nat.lt_succ_self _)).trans (heap_alloc_new w7 _)
  have Q4 : Hid (((w7.alloc (.cells #[.int .i64 x0, .int .i64 x1, .int .i64 x2, .int .i64 x3] 30)).alloc (.cells #[.int .i64 c2, .int .i64 0, .int .i64 k2] 56)).heap[w7.heap.size + 1]? = some (.cells #[.int .i64 c2, .int .i64 0, .int .i64 k2] 56 (0, 0))) := by rw [← hsz8]; exact heap_alloc_new _ _
  clear hsz8
  generalize (w7.alloc (.cells #[.int .i64 x0, .int .i64 x1, .int .i64 x2, .int .i64 x3] 30)).alloc (.cells #[.int .i64 c2, .int .i64 0, .int .i64 k2] 56) = w8 at *
  have A8 := Lib.hid (below_trans A7.out B78.out)
  obtain ⟨q4, hq4⟩ : ∃ q4, q4 = w7.heap.size + 1 := ⟨_, rfl⟩
  rw [← hq4] at Q4 ⊢
  obtain ⟨q3, hq3⟩ : ∃ q3, q3 = w7.heap.size := ⟨_, rfl⟩
  rw [← hq3] at Q3 ⊢
  clear hq3 hq4
  refine (H5.out w8 A8.out).mono ?_
  rintro e w9 ⟨v5, y3, rfl, hst1, ht3, hb⟩
  have B89 := Lib.hid hb
  have HT3 := Lib.hid ht3
  have HN1 := Lib.hid hst1
  have A9 := Lib.hid (below_trans A8.out hb)
  clear hb ht3 hst1
  go_wp2_with fail
  refine (H6.out w9 A9.out).mono ?_
  rintro e w10 ⟨v6, rfl, hst2, hb⟩
  have B910 := Lib.hid hb
  have HN2 := Lib.hid hst2
  have A10 := Lib.hid (below_trans A9.out hb)
  clear hb hst2 H1 H2 H3 H4 H5 H6
  obtain ⟨w11, hw11⟩ : ∃ w11, w11 = w10.alloc (.cells #[.int .i64 c3, .int .i64 0, .int .i64 k3] 56) := ⟨_, rfl⟩
  have HW11 := Lib.hid hw11
  have B1011 : Hid (Below w10.heap.size w10 w11) := by rw [hw11]; exact below_alloc w10 _
  have Q5 : Hid (w11.heap[w10.heap.size]? = some (.cells #[.int .i64 c3, .int .i64 0, .int .i64 k3] 56 (0, 0))) := by rw [hw11]; exact heap_alloc_new w10 _
  clear hw11
  go_upto_region 8 with fail
  rw [← HW11.out]
  clear HW11
  have C9 := Lib.hid (below_trans B910.out B1011.out)
  have C8 := Lib.hid (below_trans B89.out C9.out)
  have C7 := Lib.hid (below_trans B78.out C8.out)
  have C6 := Lib.hid (below_trans B67.out C7.out)
  have C5 := Lib.hid (below_trans B56.out C6.out)
  have C4 := Lib.hid (below_trans B45.out C5.out)
  have C3 := Lib.hid (below_trans B34.out C4.out)
  have C2 := Lib.hid (below_trans B23.out C3.out)
  have A11 := Lib.hid (below_trans HB1.out (below_trans A10.out B1011.out))
  obtain ⟨q5, hq5⟩ : ∃ q5, q5 = w10.heap.size := ⟨_, rfl⟩
  rw [← hq5] at Q5 ⊢
  clear hq5
  have HKP : Hid (∀ w', Below w11.heap.size w11 w' → w'.cell? ⟨q1, 0, none⟩ = some (.int .i64 c1) ∧ w'.cell? ⟨q1, 1, none⟩ = some (.int .i64 0) ∧ w'.cell? ⟨q1, 2, none⟩ = some (.int .i64 k1) ∧ w'.cell? ⟨q2, 0, none⟩ = some (.int .i64 x0) ∧ w'.cell? ⟨q2, 1, none⟩ = some (.int .i64 x1) ∧ w'.cell? ⟨q2, 2, none⟩ = some (.int .i64 x2) ∧ w'.cell? ⟨q2, 3, none⟩ = some (.int .i64 x3) ∧ w'.cell? ⟨q3, 0, none⟩ = some (.int .i64 x0) ∧ w'.cell? ⟨q3, 1, none⟩ = some (.int .i64 x1) ∧ w'.cell? ⟨q3, 2, none⟩ = some (.int .i64 x2) ∧ w'.cell? ⟨q3, 3, none⟩ = some (.int .i64 x3) ∧ w'.cell? ⟨q4, 0, none⟩ = some (.int .i64 c2) ∧ w'.cell? ⟨q4, 1, none⟩ = some (.int .i64 0) ∧ w'.cell? ⟨q4, 2, none⟩ = some (.int .i64 k2) ∧ w'.cell? ⟨q5, 0, none⟩ = some (.int .i64 c3) ∧ w'.cell? ⟨q5, 1, none⟩ = some (.int .i64 0) ∧ w'.cell? ⟨q5, 2, none⟩ = some (.int .i64 k3)) := fun w' hb => by
    have h4 := below_heap (below_trans C4.out hb) (lt_of_heap Q1.out) Q1.out
    have h6 := below_heap (below_trans C6.out hb) (lt_of_heap Q2.out) Q2.out
    have h8 := below_heap (below_trans C8.out hb) (lt_of_heap Q3.out) Q3.out
    have h9 := below_heap (below_trans C8.out hb) (lt_of_heap Q4.out) Q4.out
    have h11 := below_heap hb (lt_of_heap Q5.out) Q5.out
    exact ⟨cell_of h4 rfl, cell_of h4 rfl, cell_of h4 rfl, cell_of h6 rfl, cell_of h6 rfl, cell_of h6 rfl, cell_of h6 rfl, cell_of h8 rfl, cell_of h8 rfl, cell_of h8 rfl, cell_of h8 rfl, cell_of h9 rfl, cell_of h9 rfl, cell_of h9 rfl, cell_of h11 rfl, cell_of h11 rfl, cell_of h11 rfl⟩
  have fin : ∀ {e : Ending} {w' : World} {P : Prop}, P → Below w11.heap.size w11 w' → P ∧ Hid (Below w11.heap.size w11 w') ∧ w'.cell? ⟨q1, 0, none⟩ = some (.int .i64 c1) ∧ w'.cell? ⟨q1, 1, none⟩ = some (.int .i64 0) ∧ w'.cell? ⟨q1, 2, none⟩ = some (.int .i64 k1) ∧ w'.cell? ⟨q2, 0, none⟩ = some (.int .i64 x0) ∧ w'.cell? ⟨q2, 1, none⟩ = some (.int .i64 x1) ∧ w'.cell? ⟨q2, 2, none⟩ = some (.int .i64 x2) ∧ w'.cell? ⟨q2, 3, none⟩ = some (.int .i64 x3) ∧ w'.cell? ⟨q3, 0, none⟩ = some (.int .i64 x0) ∧ w'.cell? ⟨q3, 1, none⟩ = some (.int .i64 x1) ∧ w'.cell? ⟨q3, 2, none⟩ = some (.int .i64 x2) ∧ w'.cell? ⟨q3, 3, none⟩ = some (.int .i64 x3) ∧ w'.cell? ⟨q4, 0, none⟩ = some (.int .i64 c2) ∧ w'.cell? ⟨q4, 1, none⟩ = some (.int .i64 0) ∧ w'.cell? ⟨q4, 2, none⟩ = some (.int .i64 k2) ∧ w'.cell? ⟨q5, 0, none⟩ = some (.int .i64 c3) ∧ w'.cell? ⟨q5, 1, none⟩ = some (.int .i64 0) ∧ w'.cell? ⟨q5, 2, none⟩ = some (.int .i64 k3) := fun hp hb => ⟨hp, hb, HKP.out _ hb⟩
  have HBY : Hid (∀ W, Hid (Below w11.heap.size w11 W) → Calls Tryz.prog 24 #[.slice va1 bs.length vc1, .slice va2 bs.length vc2] W fun e w' => e = .returned (.bool true) ∧ Hid (Below w11.heap.size w11 w') ∧ w'.cell? ⟨q1, 0, none⟩ = some (.int .i64 c1) ∧ w'.cell? ⟨q1, 1, none⟩ = some (.int .i64 0) ∧ w'.cell? ⟨q1, 2, none⟩ = some (.int .i64 k1) ∧ w'.cell? ⟨q2, 0, none⟩ = some (.int .i64 x0) ∧ w'.cell? ⟨q2, 1, none⟩ = some (.int .i64 x1) ∧ w'.cell? ⟨q2, 2, none⟩ = some (.int .i64 x2) ∧ w'.cell? ⟨q2, 3, none⟩ = some (.int .i64 x3) ∧ w'.cell? ⟨q3, 0, none⟩ = some (.int .i64 x0) ∧ w'.cell? ⟨q3, 1, none⟩ = some (.int .i64 x1) ∧ w'.cell? ⟨q3, 2, none⟩ = some (.int .i64 x2) ∧ w'.cell? ⟨q3, 3, none⟩ = some (.int .i64 x3) ∧ w'.cell? ⟨q4, 0, none⟩ = some (.int .i64 c2) ∧ w'.cell? ⟨q4, 1, none⟩ = some (.int .i64 0) ∧ w'.cell? ⟨q4, 2, none⟩ = some (.int .i64 k2) ∧ w'.cell? ⟨q5, 0, none⟩ = some (.int .i64 c3) ∧ w'.cell? ⟨q5, 1, none⟩ = some (.int .i64 0) ∧ w'.cell? ⟨q5, 2, none⟩ = some (.int .i64 k3)) := fun W hW =>
    (bytes_true va1 vc1 va2 vc2 W (HS1.out.kept (Kept.of_below (below_trans C2.out hW.out) (fun _ => False)) (fun _ _ h => h)) (HS2.out.kept (Kept.of_below (below_trans C3.out hW.out) (fun _ => False)) (fun _ _ h => h))).mono fun e w' ⟨he, hw⟩ => fin (e := e) he (by rw [hw]; exact hW.out)
  have HTA : Hid (∀ W, Hid (Below w11.heap.size w11 W) → Calls Tryz.prog 29 #[y1] W fun e w' => e = .returned (.agg #[.int .i64 c1, .int .i64 0, .int .i64 k1]) ∧ Hid (Below w11.heap.size w11 w') ∧ w'.cell? ⟨q1, 0, none⟩ = some (.int .i64 c1) ∧ w'.cell? ⟨q1, 1, none⟩ = some (.int .i64 0) ∧ w'.cell? ⟨q1, 2, none⟩ = some (.int .i64 k1) ∧ w'.cell? ⟨q2, 0, none⟩ = some (.int .i64 x0) ∧ w'.cell? ⟨q2, 1, none⟩ = some (.int .i64 x1) ∧ w'.cell? ⟨q2, 2, none⟩ = some (.int .i64 x2) ∧ w'.cell? ⟨q2, 3, none⟩ = some (.int .i64 x3) ∧ w'.cell? ⟨q3, 0, none⟩ = some (.int .i64 x0) ∧ w'.cell? ⟨q3, 1, none⟩ = some (.int .i64 x1) ∧ w'.cell? ⟨q3, 2, none⟩ = some (.int .i64 x2) ∧ w'.cell? ⟨q3, 3, none⟩ = some (.int .i64 x3) ∧ w'.cell? ⟨q4, 0, none⟩ = some (.int .i64 c2) ∧ w'.cell? ⟨q4, 1, none⟩ = some (.int .i64 0) ∧ w'.cell? ⟨q4, 2, none⟩ = some (.int .i64 k2) ∧ w'.cell? ⟨q5, 0, none⟩ = some (.int .i64 c3) ∧ w'.cell? ⟨q5, 1, none⟩ = some (.int .i64 0) ∧ w'.cell? ⟨q5, 2, none⟩ = some (.int .i64 k3)) := fun W hW =>
    (KT1.out y1 w2 HT1.out W (below_trans C2.out hW.out) (below_trans A11.out hW.out)).mono fun e w' ⟨he, hb⟩ => fin (e := e) he (below_trans hW.out hb)
  have HTB : Hid (∀ W, Hid (Below w11.heap.size w11 W) → Calls Tryz.prog 29 #[y2] W fun e w' => e = .returned (.agg #[.int .i64 c2, .int .i64 0, .int .i64 k2]) ∧ Hid (Below w11.heap.size w11 w') ∧ w'.cell? ⟨q1, 0, none⟩ = some (.int .i64 c1) ∧ w'.cell? ⟨q1, 1, none⟩ = some (.int .i64 0) ∧ w'.cell? ⟨q1, 2, none⟩ = some (.int .i64 k1) ∧ w'.cell? ⟨q2, 0, none⟩ = some (.int .i64 x0) ∧ w'.cell? ⟨q2, 1, none⟩ = some (.int .i64 x1) ∧ w'.cell? ⟨q2, 2, none⟩ = some (.int .i64 x2) ∧ w'.cell? ⟨q2, 3, none⟩ = some (.int .i64 x3) ∧ w'.cell? ⟨q3, 0, none⟩ = some (.int .i64 x0) ∧ w'.cell? ⟨q3, 1, none⟩ = some (.int .i64 x1) ∧ w'.cell? ⟨q3, 2, none⟩ = some (.int .i64 x2) ∧ w'.cell? ⟨q3, 3, none⟩ = some (.int .i64 x3) ∧ w'.cell? ⟨q4, 0, none⟩ = some (.int .i64 c2) ∧ w'.cell? ⟨q4, 1, none⟩ = some (.int .i64 0) ∧ w'.cell? ⟨q4, 2, none⟩ = some (.int .i64 k2) ∧ w'.cell? ⟨q5, 0, none⟩ = some (.int .i64 c3) ∧ w'.cell? ⟨q5, 1, none⟩ = some (.int .i64 0) ∧ w'.cell? ⟨q5, 2, none⟩ = some (.int .i64 k3)) := fun W hW =>
    (KT2.out y2 w5 HT2.out W (below_trans C5.out hW.out) (below_trans A11.out hW.out)).mono fun e w' ⟨he, hb⟩ => fin (e := e) he (below_trans hW.out hb)
  have HTC : Hid (∀ W, Hid (Below w11.heap.size w11 W) → Calls Tryz.prog 29 #[y3] W fun e w' => e = .returned (.agg #[.int .i64 c3, .int .i64 0, .int .i64 k3]) ∧ Hid (Below w11.heap.size w11 w') ∧ w'.cell? ⟨q1, 0, none⟩ = some (.int .i64 c1) ∧ w'.cell? ⟨q1, 1, none⟩ = some (.int .i64 0) ∧ w'.cell? ⟨q1, 2, none⟩ = some (.int .i64 k1) ∧ w'.cell? ⟨q2, 0, none⟩ = some (.int .i64 x0) ∧ w'.cell? ⟨q2, 1, none⟩ = some (.int .i64 x1) ∧ w'.cell? ⟨q2, 2, none⟩ = some (.int .i64 x2) ∧ w'.cell? ⟨q2, 3, none⟩ = some (.int .i64 x3) ∧ w'.cell? ⟨q3, 0, none⟩ = some (.int .i64 x0) ∧ w'.cell? ⟨q3, 1, none⟩ = some (.int .i64 x1) ∧ w'.cell? ⟨q3, 2, none⟩ = some (.int .i64 x2) ∧ w'.cell? ⟨q3, 3, none⟩ = some (.int .i64 x3) ∧ w'.cell? ⟨q4, 0, none⟩ = some (.int .i64 c2) ∧ w'.cell? ⟨q4, 1, none⟩ = some (.int .i64 0) ∧ w'.cell? ⟨q4, 2, none⟩ = some (.int .i64 k2) ∧ w'.cell? ⟨q5, 0, none⟩ = some (.int .i64 c3) ∧ w'.cell? ⟨q5, 1, none⟩ = some (.int .i64 0) ∧ w'.cell? ⟨q5, 2, none⟩ = some (.int .i64 k3)) := fun W hW =>
    (KT3.out y3 w9 HT3.out W (below_trans C9.out hW.out) (below_trans A11.out hW.out)).mono fun e w' ⟨he, hb⟩ => fin (e := e) he (below_trans hW.out hb)
  have HST : Hid (∀ W, Hid (Below w11.heap.size w11 W) → Calls Tryz.prog 33 #[v5, v6] W fun e w' => e = .returned (.bool true) ∧ Hid (Below w11.heap.size w11 w') ∧ w'.cell? ⟨q1, 0, none⟩ = some (.int .i64 c1) ∧ w'.cell? ⟨q1, 1, none⟩ = some (.int .i64 0) ∧ w'.cell? ⟨q1, 2, none⟩ = some (.int .i64 k1) ∧ w'.cell? ⟨q2, 0, none⟩ = some (.int .i64 x0) ∧ w'.cell? ⟨q2, 1, none⟩ = some (.int .i64 x1) ∧ w'.cell? ⟨q2, 2, none⟩ = some (.int .i64 x2) ∧ w'.cell? ⟨q2, 3, none⟩ = some (.int .i64 x3) ∧ w'.cell? ⟨q3, 0, none⟩ = some (.int .i64 x0) ∧ w'.cell? ⟨q3, 1, none⟩ = some (.int .i64 x1) ∧ w'.cell? ⟨q3, 2, none⟩ = some (.int .i64 x2) ∧ w'.cell? ⟨q3, 3, none⟩ = some (.int .i64 x3) ∧ w'.cell? ⟨q4, 0, none⟩ = some (.int .i64 c2) ∧ w'.cell? ⟨q4, 1, none⟩ = some (.int .i64 0) ∧ w'.cell? ⟨q4, 2, none⟩ = some (.int .i64 k2) ∧ w'.cell? ⟨q5, 0, none⟩ = some (.int .i64 c3) ∧ w'.cell? ⟨q5, 1, none⟩ = some (.int .i64 0) ∧ w'.cell? ⟨q5, 2, none⟩ = some (.int .i64 k3)) := fun W hW =>
    (strings_same v5 v6 ns W (HN1.out.kept (Kept.of_below (below_trans C9.out hW.out) (fun _ => False)) (fun _ h => h.elim)) (HN2.out.kept (Kept.of_below (below_trans B1011.out hW.out) (fun _ => False)) (fun _ h => h.elim)) HLN.out).mono fun e w' ⟨he, hb⟩ => fin (e := e) he (below_trans hW.out hb)
  have HAW : Hid (∀ W, Hid (Below w11.heap.size w11 W) → Calls Tryz.prog 17 #[] W fun e w' => e = .returned (.bool true) ∧ Hid (Below w11.heap.size w11 w') ∧ w'.cell? ⟨q1, 0, none⟩ = some (.int .i64 c1) ∧ w'.cell? ⟨q1, 1, none⟩ = some (.int .i64 0) ∧ w'.cell? ⟨q1, 2, none⟩ = some (.int .i64 k1) ∧ w'.cell? ⟨q2, 0, none⟩ = some (.int .i64 x0) ∧ w'.cell? ⟨q2, 1, none⟩ = some (.int .i64 x1) ∧ w'.cell? ⟨q2, 2, none⟩ = some (.int .i64 x2) ∧ w'.cell? ⟨q2, 3, none⟩ = some (.int .i64 x3) ∧ w'.cell? ⟨q3, 0, none⟩ = some (.int .i64 x0) ∧ w'.cell? ⟨q3, 1, none⟩ = some (.int .i64 x1) ∧ w'.cell? ⟨q3, 2, none⟩ = some (.int .i64 x2) ∧ w'.cell? ⟨q3, 3, none⟩ = some (.int .i64 x3) ∧ w'.cell? ⟨q4, 0, none⟩ = some (.int .i64 c2) ∧ w'.cell? ⟨q4, 1, none⟩ = some (.int .i64 0) ∧ w'.cell? ⟨q4, 2, none⟩ = some (.int .i64 k2) ∧ w'.cell? ⟨q5, 0, none⟩ = some (.int .i64 c3) ∧ w'.cell? ⟨q5, 1, none⟩ = some (.int .i64 0) ∧ w'.cell? ⟨q5, 2, none⟩ = some (.int .i64 k3)) := fun W hW =>
    (awake16_any W (HE.out W (below_trans A11.out hW.out))).mono fun e w' ⟨he, hb⟩ => fin (e := e) he (below_trans hW.out hb)
  have HBR : Hid (Below w11.heap.size w11 w11) := Below.refl _ _
  have HBD : Hid (Below w11.heap.size w11 w11.drew) := (Below.refl _ _).drew
  obtain ⟨d0, d1, d2, d3, d4, d5, d6, d7, d8, d9, d10, d11, d12, d13, d14, d15, d16⟩ := HKP.out w11 HBR.out
  clear HKP fin HS1 HS2 HT1 HT2 HT3 HN1 HN2 KT1 KT2 KT3 B12 B23 B34 B45 B56 B67 B78 B89 B910 B1011 C2 C3 C4 C5 C6 C7 C8 C9 A3 A4 A5 A6 A7 A8 A9 A10 Q1 Q2 Q3 Q4 Q5 HLN
  go_region_held3 (fun W => W.cell? ⟨q1, 0, none⟩ = some (.int .i64 c1) ∧ W.cell? ⟨q1, 1, none⟩ = some (.int .i64 0) ∧ W.cell? ⟨q1, 2, none⟩ = some (.int .i64 k1) ∧ W.cell? ⟨q2, 0, none⟩ = some (.int .i64 x0) ∧ W.cell? ⟨q2, 1, none⟩ = some (.int .i64 x1) ∧ W.cell? ⟨q2, 2, none⟩ = some (.int .i64 x2) ∧ W.cell? ⟨q2, 3, none⟩ = some (.int .i64 x3) ∧ W.cell? ⟨q3, 0, none⟩ = some (.int .i64 x0) ∧ W.cell? ⟨q3, 1, none⟩ = some (.int .i64 x1) ∧ W.cell? ⟨q3, 2, none⟩ = some (.int .i64 x2) ∧ W.cell? ⟨q3, 3, none⟩ = some (.int .i64 x3) ∧ W.cell? ⟨q4, 0, none⟩ = some (.int .i64 c2) ∧ W.cell? ⟨q4, 1, none⟩ = some (.int .i64 0) ∧ W.cell? ⟨q4, 2, none⟩ = some (.int .i64 k2) ∧ W.cell? ⟨q5, 0, none⟩ = some (.int .i64 c3) ∧ W.cell? ⟨q5, 1, none⟩ = some (.int .i64 0) ∧ W.cell? ⟨q5, 2, none⟩ = some (.int .i64 k3)) (first | with_reducible exact ⟨by assumption, by assumption, by assumption, by assumption, by assumption, by assumption, by assumption, by assumption, by assumption, by assumption, by assumption, by assumption, by assumption, by assumption, by assumption, by assumption, by assumption⟩ | exact ⟨d0, d1, d2, d3, d4, d5, d6, d7, d8, d9, d10, d11, d12, d13, d14, d15, d16⟩)
    (first
      | (go_at_call 24; refine (HBY.out _ (by with_reducible assumption)).mono ?_; rintro e w' ⟨rfl, HBX, e0, e1, e2, e3, e4, e5, e6, e7, e8, e9, e10, e11, e12, e13, e14, e15, e16⟩)
      | (go_at_call_of 29 y1; refine (HTA.out _ (by with_reducible assumption)).mono ?_; rintro e w' ⟨rfl, HBX, e0, e1, e2, e3, e4, e5, e6, e7, e8, e9, e10, e11, e12, e13, e14, e15, e16⟩)
      | (go_at_call_of 29 y2; refine (HTB.out _ (by with_reducible assumption)).mono ?_; rintro e w' ⟨rfl, HBX, e0, e1, e2, e3, e4, e5, e6, e7, e8, e9, e10, e11, e12, e13, e14, e15, e16⟩)
      | (go_at_call_of 29 y3; refine (HTC.out _ (by with_reducible assumption)).mono ?_; rintro e w' ⟨rfl, HBX, e0, e1, e2, e3, e4, e5, e6, e7, e8, e9, e10, e11, e12, e13, e14, e15, e16⟩)
      | (go_at_call 33; refine (HST.out _ (by with_reducible assumption)).mono ?_; rintro e w' ⟨rfl, HBX, e0, e1, e2, e3, e4, e5, e6, e7, e8, e9, e10, e11, e12, e13, e14, e15, e16⟩)
      | (go_at_call 17; refine (HAW.out _ (by with_reducible assumption)).mono ?_; rintro e w' ⟨rfl, HBX, e0, e1, e2, e3, e4, e5, e6, e7, e8, e9, e10, e11, e12, e13, e14, e15, e16⟩))
  all_goals
    have HBF := Lib.hid (below_trans A11.out HBX.out)
    go_wp2_with fail
    go_ret
    exact ⟨rfl, HBF.out⟩
end Go.Proofs.YtjhojohjegkinaaGreatDoor
