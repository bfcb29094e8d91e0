/-
  append over bytes: one law for a source that is nil and one that is not.
-/
import Derived.Test.YtiejfbkbjahcgaaGreatDoorFind
import Derived.Laws.AppendOwnNone
namespace Go.Proofs.YtiejfbkbjahcgaaGreatDoor
open Go Go.RowKit

/-- A slice of bytes that reads as l. -/
def Src (w : World) (s : Value) (l : List UInt8) : Prop :=
  (s = .slice none 0 0 ∧ l = []) ∨ ∃ ad c, s = .slice (some ad) l.length c ∧ l.length ≤ c ∧ ∀ j (h : j < l.length), w.cell? (ad.add j) = some (.int .u8 l[j].toNat)

theorem Src.nil (w : World) : Src w (.slice none 0 0) [] := .inl ⟨rfl, rfl⟩

theorem Src.kept {w w' : World} {s : Value} {l : List UInt8} {F : Nat → Prop} (h : Src w s l) (k : Kept F w w') (hF : ∀ b, s.ownBlock = some b → ¬ F b) : Src w' s l := by
  rcases h with h | ⟨ad, c, rfl, hc, h⟩
  · exact .inl h
  · refine .inr ⟨ad, c, rfl, hc, fun j hj => ?_⟩
    have h1 := h j hj
    have hb : (ad.add j).block = ad.block := by unfold Addr.add; split <;> rfl
    rw [k.cell (p := ad.add j) (World.block_lt_of_cell? _ _ h1) (by rw [hb]; exact hF _ rfl)]
    exact h1

theorem Src.lt {w : World} {s : Value} {l : List UInt8} (h : Src w s l) (hl : 0 < l.length) : ∃ b, s.ownBlock = some b ∧ b < w.heap.size := by
  rcases h with ⟨_, rfl⟩ | ⟨ad, c, rfl, _, h⟩
  · simp at hl
  · have hb : (ad.add 0).block = ad.block := by unfold Addr.add; split <;> rfl
    exact ⟨_, rfl, hb ▸ World.block_lt_of_cell? _ _ (h 0 hl)⟩

/-- An owned row of bytes is a source. -/
theorem Src.of_owns {w : World} {base : Nat} {v : Value} {l : List UInt8} (h : w.ownsRow base 5 1 v l.length (u8s l)) : Src w v l := by
  rcases h.2 with ⟨rfl, h0⟩ | ⟨g, cap, cur, rfl, r1, r2, r3, _, _, r6⟩
  · exact .inl ⟨rfl, List.eq_nil_of_length_eq_zero h0⟩
  · refine .inr ⟨⟨g, 0, none⟩, cap, rfl, r3, fun j hj => ?_⟩
    exact h.cells (g := g) rfl j _ (by unfold u8s; simp [List.getElem?_eq_getElem hj])

theorem owns_form {w : World} {base : Nat} {e : TypeId} {size n : Nat} {v : Value} {xs : List Value} (h : w.ownsRow base e size v n xs) : ∃ a c, v = .slice a n c := by
  rcases h.2 with ⟨rfl, rfl⟩ | ⟨g, cap, cur, rfl, _⟩
  · exact ⟨_, _, rfl⟩
  · exact ⟨_, _, rfl⟩

theorem infoU8 : (Tryz.prog.info? 5).map (fun i => (i.zero, i.size, i.bytes)) = some (some (.int .u8 0), 1, 1) := by kernel_rfl

theorem wpList_append_src {w : World} {ops : Array Oper} {rest : List Oper} {o : Oper} {a : Act} {Q : Exit → Act → World → Prop} (hgd : o.guard = none) (s x : Operand)
    (ho : o.op = .call { callee := .builtin .append, args := #[s, x], argTypes := #[44, 44] })
    (base : Nat) (v : Value) (n : Nat) (xs : List Value) (hs : a.eval s = v) (hown : w.ownsRow base 5 1 v n xs)
    (sv : Value) (l : List UInt8) (hx : a.eval x = sv) (hl : Src w sv l) (hn : n + l.length ≤ 140737488355328) (hbase : base ≤ w.heap.size)
    (h : ∀ v' w', w'.ownsRow base 5 1 v' (n + l.length) (xs ++ u8s l) → w.grownBy w' v.ownBlock → wpList Tryz.prog ops Q rest (a.put o.dst v') w') : wpList Tryz.prog ops Q (o :: rest) a w := by
  obtain ⟨i, hi, hz0, hz1, hz2⟩ := info_parts infoU8
  rcases hl with ⟨rfl, rfl⟩ | ⟨ad, c, rfl, _, hcell⟩
  · refine wpList_append_own_none hgd s x _ ho base _ i 1 Tryz.underlying44 hi v n xs hs hown hx (h v w ?_ ?_)
    · simpa [u8s] using hown
    · exact ⟨rfl, rfl, rfl, Nat.le_refl _, fun _ _ _ => rfl⟩
  · refine wpList_append_own w hgd s x _ ho base _ i (.int .u8 0) 1 1 Tryz.underlying44 hi hz0 hz1 hz2 rfl (by decide) v n xs hs hown ad l.length c (u8s l) hx (by simp [u8s]) ?_ ?_ (by unfold maxLen; omega) (by omega) hbase (fun v' w' h1 h2 _ => h v' w' h1 h2)
    · intro j u hu
      have hj : j < l.length := by
        have := (List.getElem?_eq_some_iff.1 hu).1
        simpa [u8s] using this
      have h1 := hcell j hj
      have : u = .int .u8 l[j].toNat := by
        unfold u8s at hu
        rw [List.getElem?_map, List.getElem?_eq_getElem hj] at hu
        simpa using hu.symm
      rw [this]
      exact h1
    · intro u hu
      unfold u8s at hu
      obtain ⟨y, _, rfl⟩ := List.mem_map.1 hu
      rfl

/-- The same as an equation on the operation's run. -/
theorem run_append_src {w : World} (base : Nat) (v : Value) (n : Nat) (xs : List Value) (hown : w.ownsRow base 5 1 v n xs)
    (sv : Value) (l : List UInt8) (hl : Src w sv l) (hn : n + l.length ≤ 140737488355328) (hbase : base ≤ w.heap.size) :
    ∃ v' w', (Builtin.append_ #[44, 44] 44 #[v, sv]).run Tryz.prog w = .ok v' w' ∧ w'.ownsRow base 5 1 v' (n + l.length) (xs ++ u8s l) ∧ w.grownBy w' v.ownBlock := by
  obtain ⟨i, hi, hz0, hz1, hz2⟩ := info_parts infoU8
  rcases hl with ⟨rfl, rfl⟩ | ⟨ad, c, rfl, _, hcell⟩
  · have hrun := run_append_owned_none (P := Tryz.prog) (w := w) base 44 44 5 i 1 Tryz.underlying44 hi v n xs hown
    exact ⟨v, w, hrun, by simpa [u8s] using hown, ⟨rfl, rfl, rfl, Nat.le_refl _, fun _ _ _ => rfl⟩⟩
  · have hcells : ∀ j u, (u8s l)[j]? = some u → w.cell? (ad.add j) = some u := by
      intro j u hu
      have hj : j < l.length := by
        have := (List.getElem?_eq_some_iff.1 hu).1
        simpa [u8s] using this
      have h1 := hcell j hj
      have : u = .int .u8 l[j].toNat := by
        unfold u8s at hu
        rw [List.getElem?_map, List.getElem?_eq_getElem hj] at hu
        simpa using hu.symm
      rw [this]
      exact h1
    have hone : ∀ u ∈ u8s l, u.oneCell' = true := by
      intro u hu
      unfold u8s at hu
      obtain ⟨y, _, rfl⟩ := List.mem_map.1 hu
      rfl
    obtain ⟨v', w', h1, h2, h3, _⟩ := run_append_own (P := Tryz.prog) w base 44 44 5 i (.int .u8 0) 1 1 Tryz.underlying44 hi hz0 hz1 hz2 rfl (by decide) v n xs hown ad l.length c (u8s l) (by simp [u8s]) hcells hone (by unfold maxLen; omega) (by omega) hbase
    exact ⟨v', w', h1, h2, h3⟩

/-! ### append inside a region that draws: the run by name -/
noncomputable def apRun (w : World) (v sv : Value) : Result Value := (Builtin.append_ #[44, 44] 44 #[v, sv]).run Tryz.prog w
noncomputable def apA (w : World) (v sv : Value) : Option Addr := match apRun w v sv with | .ok (.slice a _ _) _ => a | _ => none
noncomputable def apN (w : World) (v sv : Value) : Nat := match apRun w v sv with | .ok (.slice _ n _) _ => n | _ => 0
noncomputable def apC (w : World) (v sv : Value) : Nat := match apRun w v sv with | .ok (.slice _ _ c) _ => c | _ => 0
noncomputable def apW (w : World) (v sv : Value) : World := match apRun w v sv with | .ok _ w' => w' | _ => w
def ApOk (w : World) (v sv : Value) : Prop := ∃ a n c w', apRun w v sv = .ok (.slice a n c) w'

theorem apOk_run {w : World} {v sv : Value} (h : ApOk w v sv) : apRun w v sv = .ok (.slice (apA w v sv) (apN w v sv) (apC w v sv)) (apW w v sv) := by
  obtain ⟨a, n, c, w', h⟩ := h
  unfold apA apN apC apW
  rw [h]

/-- The rule for the walk of such a region: laid open where it is wanted by 'attribute [local go_sem ↓] ap_rule'. -/
theorem ap_rule {w : World} {a : Act} {d : Option Tmp} {v0 : Value} {t : Nat} {pos : String} {af : Array Edge} {g : Option (Nat × Bool)} (h : ApOk w v0 (a.eval (.tmp t))) :
    (execOp a.eval ⟨d, .call { callee := .builtin .append, args := #[.const v0, .tmp t], argTypes := #[44, 44] }, 44, pos, af, g⟩).run Tryz.prog w =
      .ok (.value (.slice (apA w v0 (a.eval (.tmp t))) (apN w v0 (a.eval (.tmp t))) (apC w v0 (a.eval (.tmp t))))) (apW w v0 (a.eval (.tmp t))) := by
  have hr := apOk_run h
  unfold apRun at hr
  have he : a.eval (.const v0) = v0 := rfl
  unfold execOp
  simp only [resolve, invoke, builtin, Sem.run_bind, Sem.run_pure, Result.andThen_ok, List.map_toArray, List.map_cons, List.map_nil, he, hr]

/-- What is known of it. -/
theorem ap_known {w : World} (base : Nat) (v : Value) (n : Nat) (xs : List Value) (hown : w.ownsRow base 5 1 v n xs) (sv : Value) (l : List UInt8) (hl : Src w sv l) (hn : n + l.length ≤ 140737488355328) (hbase : base ≤ w.heap.size) :
    ApOk w v sv ∧ apN w v sv = n + l.length ∧ (apW w v sv).ownsRow base 5 1 (.slice (apA w v sv) (apN w v sv) (apC w v sv)) (n + l.length) (xs ++ u8s l) ∧ w.grownBy (apW w v sv) v.ownBlock := by
  obtain ⟨v', w', h1, h2, h3⟩ := run_append_src base v n xs hown sv l hl hn hbase
  obtain ⟨a, c, rfl⟩ := owns_form h2
  have hr : apRun w v sv = .ok (.slice a (n + l.length) c) w' := h1
  have e1 : apA w v sv = a := by unfold apA; rw [hr]
  have e2 : apN w v sv = n + l.length := by unfold apN; rw [hr]
  have e3 : apC w v sv = c := by unfold apC; rw [hr]
  have e4 : apW w v sv = w' := by unfold apW; rw [hr]
  rw [e1, e2, e3, e4]
  exact ⟨⟨a, _, c, w', hr⟩, rfl, h2, h3⟩
end Go.Proofs.YtiejfbkbjahcgaaGreatDoor
