/-
 WHAT A ROW's LISTED VARIABLES GIVE A WALK: the errors at the bottom, each at a place of its own ('Env'), and the length that the library keeps ('Ctx').
 THE ROWS' SHELL: the wrap that hands the walk both the listed variables and the world's shape; a world that meets the list (the witness).
-/
import Derived.Test.YteeeaeiafdgpkaaGreatDoorTie
import Derived.Test.YteeeaeiafdgpkaaGreatDoorTreeA
import Derived.Stop.LaidErr
import Derived.LaidSub
import Derived.MakeChecks
import Derived.Lay
import Derived.Shelf.Vars
import Derived.ProofKit
import Derived.Handed
import Derived.SizedLaws
import Derived.LaidHandle
import Derived.JoinedOf
import Derived.Stop.Joined
namespace Go.Proofs.YteeeaeiafdgpkaaGreatDoor
open Go Go.RowKit
section
open Go.ChangeShapes
def sent (t : List UInt8) : DataW Unit := .iface "*errors.errorString" (.ptr (.agg [.lit (.string t)]))
def sents : List (Nat × String × List UInt8) := [
 (gl 1, "pidgin/fault.errArg", [97, 114, 103, 117, 109, 101, 110, 116]), (gl 2, "pidgin/fault.errLong", [108, 111, 110, 103]), (gl 3, "pidgin/fault.errSyntax", [115, 121, 110, 116, 97, 120]), (gl 4, "pidgin/fault.errDeep", [100, 101, 101, 112]),
 (gl 5, "pidgin/fault.errMany", [109, 97, 110, 121]), (gl 6, "pidgin/fault.errNumber", [110, 117, 109, 98, 101, 114]), (gl 7, "pidgin/fault.errRange", [114, 97, 110, 103, 101]), (gl 8, "pidgin/fault.errBracket", [98, 114, 97, 99, 107, 101, 116]),
 (gl 9, "pidgin/fault.errGroup", [103, 114, 111, 117, 112]), (gl 10, "pidgin/fault.errEscape", [101, 115, 99, 97, 112, 101]), (gl 11, "pidgin/fault.errStates", [115, 116, 97, 116, 101, 115]), (gl 12, "pidgin/fault.errDivide", [100, 105, 118, 105, 100, 101]),
 (gl 13, "pidgin/fault.errValue", [118, 97, 108, 117, 101]), (gl 14, "pidgin/fault.errOperand", [111, 112, 101, 114, 97, 110, 100]), (gl 15, "pidgin/fault.errName", [110, 97, 109, 101]), (gl 16, "pidgin/fault.errFile", [102, 105, 108, 101]),
 (gl 17, "pidgin/fault.errDir", [100, 105, 114]), (gl 18, "pidgin/fault.errExists", [101, 120, 105, 115, 116, 115]), (gl 19, "pidgin/fault.errFull", [102, 117, 108, 108]), (gl 20, "pidgin/fault.errLabel", [108, 97, 98, 101, 108]), (gl 21, "pidgin/fault.errFuel", [102, 117, 101, 108])]
def asLaid (l : List (Nat × String × List UInt8)) : List (String × DataW Unit) := l.map fun x => (x.2.1, sent x.2.2)
def isSent (x : String × DataW Unit) : Bool := (sents.map (·.2.1)).contains x.1
theorem sents_named : (sents.all fun x => decide (Tryz.prog.globalNamed x.2.1 = some x.1) && decide ((Tryz.prog.globals[x.1]?).map (·.type) = some 75)) = true := by kernel_rfl
theorem star_es : "*" ++ "errors.errorString" = "*errors.errorString" := by decide
theorem row_es (u : TypeId) (h : Tryz.prog.typeName? 3 u = some "*errors.errorString") : u = 265 :=
 typeName_ptr_named (nm := "errors.errorString") (by rw [star_es]; kernel_rfl) (by kernel_rfl) (by decide) u (by rw [star_es]; exact h)
set_option maxRecDepth 100000 in
theorem places {W : World} : ∀ (l : List (Nat × String × List UInt8)) (ps : List MemPlace), (∀ x ∈ l, Tryz.prog.globalNamed x.2.1 = some x.1 ∧ (Tryz.prog.globals[x.1]?).map (·.type) = some 75) →
  DataW.LaidVars Tryz.prog W (asLaid l) ps → ps.Nodup →
  (∀ b off, MemPlace.cell b off ∈ ps → (∃ c t, W.heap[b]? = some (.cells c t (0, 0))) ∧ ∀ u v, W.cell? ⟨b, off, none⟩ = some (.iface u v) → Value.okWide Tryz.prog W .any 0 u v) →
  ∃ zs : List Addr, zs.length = l.length ∧ zs.Nodup ∧ (∀ a ∈ zs, MemPlace.cell a.block a.off ∈ ps ∧ a.block < W.heap.size) ∧ ∀ (i : Nat) (x : Nat × String × List UInt8) (a : Addr), l[i]? = some x → zs[i]? = some a → W.cell? ⟨x.1, 0, none⟩ = some (botV a)
 | [], ps, _, _, _, _ => ⟨[], rfl, List.nodup_nil, fun (a : Addr) (h : a ∈ []) => absurd h List.not_mem_nil, fun (i : Nat) (x : Nat × String × List UInt8) (a : Addr) (h : ([] : List (Nat × String × List UInt8))[i]? = some x) => absurd h (by simp)⟩
 | (g, n, text) :: l, ps, hn, hv, hnd, hrows => by
  obtain ⟨g0, t0, cs0, f0, p0, q0, hg0, ht0, hv0, hd0, hq, e0⟩ := hv
  obtain ⟨hg, ht⟩ := hn (g, n, text) (List.mem_cons_self ..)
  obtain rfl := Option.some.inj (hg.symm.trans hg0)
  obtain rfl := Option.some.inj (ht.symm.trans ht0)
  subst e0
  obtain ⟨l0⟩ := cs0
  have ok0 : ∀ u v, l0 = [.iface u v] → Value.okWide Tryz.prog W .any 0 u v := fun u v e => by
   subst e
   exact (hrows g 0 (by simp [MemPlace.row])).2 u v (by simpa using World.var?_cell hg0 hv0 0)
  obtain ⟨a, s, rfl, hc0, _, _, rfl⟩ := errorString_of_trod Tryz.underlying75 row_es Tryz.underlying265 Tryz.underlying285 rfl rfl Tryz.underlying9 (by kernel_rfl) (by kernel_rfl) hd0 ok0
  have hnd1 := List.nodup_append.1 hnd
  have hnd2 := List.nodup_append.1 hnd1.1
  obtain ⟨zs, h1, h2, h3, h4⟩ := places l q0 (fun x hx => hn x (List.mem_cons_of_mem _ hx)) hq hnd1.2.1 (fun b off hm => hrows b off (List.mem_append_right _ hm))
  refine ⟨a :: zs, by simp [h1], List.nodup_cons.2 ⟨fun hm => ?_, h2⟩, fun b hb => ?_, fun i x b hx hb => ?_⟩
  ·exact hnd1.2.2 (MemPlace.cell a.block a.off) (List.mem_append_right _ (by simp [MemPlace.row])) _ (h3 a hm).1 rfl
  ·rcases List.mem_cons.1 hb with rfl | hb
   ·exact ⟨List.mem_append_left _ (List.mem_append_right _ (by simp [MemPlace.row])), World.block_lt_of_cell? _ _ hc0⟩
   ·exact ⟨List.mem_append_right _ (h3 b hb).1, (h3 b hb).2⟩
  ·cases i with
   | zero =>
    simp only [List.getElem?_cons_zero, Option.some.injEq] at hx hb
    subst hx; subst hb
    have h9 := World.var?_cell hg0 hv0 0
    simp only [botV]
    simpa using h9
   | succ i =>
    simp only [List.getElem?_cons_succ] at hx hb
    exact h4 i x b hx hb
theorem env_of_laid {W : World} (h : laidMet Tryz.prog (asLaid sents) W) : ∃ E, Env E W.heap.size W := by
 obtain ⟨ps, hv, hnd, hrows⟩ := h
 obtain ⟨zs, h1, h2, h3, h4⟩ := places sents ps (fun x hx => by
  have h := List.all_eq_true.1 sents_named x hx
  simpa using h) hv hnd hrows
 have hlen : zs.length = 21 := h1
 have key : ∀ c, 1 ≤ c → c ≤ 21 → ∃ x, sents[c - 1]? = some x ∧ x.1 = gl c := by
  intro c hc1 hc2
  have hc : c = 1 ∨ c = 2 ∨ c = 3 ∨ c = 4 ∨ c = 5 ∨ c = 6 ∨ c = 7 ∨ c = 8 ∨ c = 9 ∨ c = 10 ∨ c = 11 ∨ c = 12 ∨ c = 13 ∨ c = 14 ∨ c = 15 ∨ c = 16 ∨ c = 17 ∨ c = 18 ∨ c = 19 ∨ c = 20 ∨ c = 21 := by omega
  rcases hc with rfl | rfl | rfl | rfl | rfl | rfl | rfl | rfl | rfl | rfl | rfl | rfl | rfl | rfl | rfl | rfl | rfl | rfl | rfl | rfl | rfl <;> exact ⟨_, rfl, rfl⟩
 have at_ : ∀ c, 1 ≤ c → c ≤ 21 → ∃ a, zs[c - 1]? = some a ∧ zs.getD (c - 1) default = a ∧ a ∈ zs := by
  intro c hc1 hc2
  have hlt : c - 1 < zs.length := by omega
  exact ⟨zs[c - 1], List.getElem?_eq_getElem hlt, by simp [hlt], List.getElem_mem hlt⟩
 refine ⟨fun c => zs.getD (c - 1) default, Nat.le_refl _, fun c c1 c2 => ?_, fun c c1 c2 => ?_, fun c d c1 c2 d1 d2 he => ?_, fun c c1 c2 => ?_⟩
 ·obtain ⟨a, ha, he, hm⟩ := at_ c c1 c2
  obtain ⟨x, hx, hg⟩ := key c c1 c2
  have hc := h4 _ x a hx ha
  rw [hg] at hc
  exact ⟨World.block_lt_of_cell? _ _ hc, by show (zs.getD (c - 1) default).block < _; rw [he]; exact (h3 a hm).2⟩
 ·obtain ⟨a, ha, he, hm⟩ := at_ c c1 c2
  obtain ⟨x, hx, hg⟩ := key c c1 c2
  have hc := h4 _ x a hx ha
  rw [hg] at hc
  show _ = some (botV (zs.getD (c - 1) default))
  rw [he]
  exact hc
 ·have hc : c - 1 < zs.length := by omega
  have hd : d - 1 < zs.length := by omega
  have he' : zs[c - 1] = zs[d - 1] := by simpa [hc, hd] using he
  rcases Nat.lt_trichotomy (c - 1) (d - 1) with h | h | h
  ·exact absurd he' (List.pairwise_iff_getElem.1 h2 _ _ hc hd h)
  ·omega
  ·exact absurd he'.symm (List.pairwise_iff_getElem.1 h2 _ _ hd hc h)
 ·obtain ⟨a, ha, he, hm⟩ := at_ c c1 c2
  show ∃ cs t, W.heap[(zs.getD (c - 1) default).block]? = _
  rw [he]
  exact (hrows a.block a.off (h3 a hm).1).1
theorem ctx_of_laid {W : World} {l : List (String × DataW Unit)} (h : laidMetH Tryz.prog l W) (hl : l.filter isSent = asLaid sents) (hs : W.ShapedOpen Tryz.prog) : ∃ E, Ctx E W.heap.size W := by
 have h1 := laidMetH.filter isSent h
 rw [hl, MakeChecks.laidMetH_plain _ _ _ (by rfl)] at h1
 obtain ⟨E, hE⟩ := env_of_laid h1
 have hm := cell_of_shapedOpen_int (P := Tryz.prog) (g := 25) (t := 3) (zero := #[.int .i64 0]) hs (of_decide_eq_true (by kernel_rfl)) (by kernel_rfl) rfl (by kernel_rfl) (by kernel_rfl) Tryz.underlying3
 obtain ⟨m, hm⟩ := hm
 exact ⟨E, hE, ⟨m, hm⟩, World.block_lt_of_cell? _ _ hm⟩
end
section
open Go.ChangeShapes Go.WideShapes
section
variable {H : Type} {enc : TypeId × Value → H}
theorem handed {a : Assume} {C : Checked} {os : Os} {f : FuncId} {fn : Func} {s : ChangeSpec} {conds : List PathCond} {apart fresh handsOn again : Bool} {X : World → Prop}
  (hX : ∀ (w w' : World), w.heap = w'.heap → X w → X w')
  (own : ownKnob C.prog.godebug = none) (started : os.Started) (noInit : C.prog.inits.idxOf? f = none) (hfn : C.prog.funcs[f]? = some fn)
  (witness : ∃ (w : World) (tape : Tape) (i : Input), w.os = os ∧ (w.forCall tape i).Shaped C.prog ∧ i.vars = [] ∧ Input.okWide C.prog (w.forCall tape i) .any w.heap.size f i ∧
   ((s.pre enc C.prog fn conds apart (w.forCall tape i).memory i.args ∧ X (w.forCall tape i).memory) ∧ sizedMet enc C.prog fn (OpenSpec.ofChange s) apart (w.forCall tape i).memory i.args) ∧ a.holds C.prog (lone (Frame.enter C.prog f i.args .normal) [] (w.forCall tape i)))
  (contract : ∀ (W : World) (base : Nat) (args : Array Value) (ds gs : List (DataW H)) (before : List MemPlace),
   (∀ (j : Nat) t v, fn.params[j]? = some t → args[j]? = some v → Value.okWide C.prog W .any base t v) →
   DataW.Whole enc C.prog fn.params.toList s.vars apart W args.toList ds gs before →
   (DataW.weightsEach C.prog (fn.params.toList ++ s.plain.varTypes C.prog) (ds ++ gs)).all (· ≤ reachBytes) = true →
   X W → W.ShapedOpen C.prog →
   Calls C.prog f args W fun e W' => ∃ v, e = .returned v ∧ s.post enc C.prog fn apart fresh handsOn again W args v W') :
  ReturnsInHanded a C os f .any (fun w args => (s.pre enc C.prog fn conds apart w args ∧ X w) ∧ sizedMet enc C.prog fn (OpenSpec.ofChange s) apart w args) (s.post enc C.prog fn apart fresh handsOn again) := by
 refine returnsInHanded_of_calls own started noInit witness ?_
 intro w tape i _ hsh _ hok hpre _
 obtain ⟨_, _, _, fn', hfn', _, _, _, _, hval⟩ := hok
 have e : fn' = fn := Option.some.inj (hfn'.symm.trans hfn)
 subst e
 obtain ⟨⟨⟨ds, gs, before, hw, _⟩, hx⟩, hz⟩ := hpre
 have hw' := DataW.Whole.of_heap (w' := w.forCall tape i) (by rfl) hw
 refine (contract (w.forCall tape i) w.heap.size i.args ds gs before hval hw' (hz.weights hw) (hX _ _ (by rfl) hx) hsh).mono fun e W' ⟨v, he, hp⟩ => ?_
 subst he
 exact ChangeSpec.post_blind hp
end
theorem Tryz.own : ownKnob Tryz.prog.godebug = none := by kernel_rfl
theorem Tryz.laidOut : laidOutB Tryz.prog = true := by kernel_rfl
theorem post_true {H : Type} {enc : TypeId × Value → H} {f : Func} {s : ChangeSpec} {W W' : World} {args : Array Value} {ds gs : List (DataW H)} {p : List MemPlace} {tb : TypeId}
  (hW : DataW.Whole enc Tryz.prog f.params.toList s.vars false W args.toList ds gs p) (hvars : s.vars = []) (hres : (s.fn H (ds ++ gs)).results = [.lit (.bool true)]) (hv0 : (s.fn H (ds ++ gs)).vars = [])
  (ht : f.resultTypes = #[tb]) (hb : Tryz.prog.underlying tb = some .bool) (hargs : DataW.TrodAll enc Tryz.prog W' 0 (fun b => decide (b < W.heap.size)) true f.params.toList args.toList (s.fn H (ds ++ gs)).args p)
  (hbel : Below W.heap.size W W') : s.post enc Tryz.prog f false true false false W args (.bool true) W' := by
 refine ⟨ds, gs, p, [], p, [], hW, ?_, hargs, ?_, hbel.frame _, fun h => by cases h⟩
 ·have hrl : Value.resultList f.resultTypes.size (.bool true) = [.bool true] := by rw [ht]; rfl
  rw [hrl, hres, ht]
  exact trodAll_mk1 (shut_bool hb true)
 ·rw [hvars, hv0]
  rfl
end
end Go.Proofs.YteeeaeiafdgpkaaGreatDoor
