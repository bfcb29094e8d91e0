/-
 append of noughts ('append(b, make([]byte, n)...)'): its run, by name.
 (*File).WriteAt: its contract.
 An open file's write, where it writes; a kern's Write to one.
-/
import Derived.Test.YteeeaeiafdgpkaaGreatDoorAppA
import Derived.Lib.AppendZerosOnto
import Derived.Test.YteeeaeiafdgpkaaGreatDoorNewA
import Derived.Laws.CopyOwn
import Derived.Deep.RegionWith
namespace Go.Proofs.YteeeaeiafdgpkaaGreatDoor
open Go Go.RowKit
open Go.Lib (hid)
section
theorem zc1 (n : Nat) : (Builtin.zeroCells (Value.int .u8 0).cells n).toList = List.replicate n (.int .u8 0) := by
 unfold Builtin.zeroCells
 have e : (Value.int .u8 0).cells = #[.int .u8 0] := rfl
 rw [e]
 apply List.ext_getElem
 ·simp
 ·intro i h1 h2
  simp [Nat.mod_one]
theorem run_append_zeros {w : World} (base : Nat) (v : Value) (n : Nat) (xs : List Value) (hown : w.ownsRow base 5 1 v n xs) (k : Nat) (hk : 0 < k) (hn : n + k ≤ 70000000000) (hbase : base ≤ w.heap.size) :
  ∃ v' w', (Builtin.append_ #[28, 3] 28 #[v, .int .i64 k]).run Tryz.prog w = .ok v' w' ∧ w'.ownsRow base 5 1 v' (n + k) (xs ++ List.replicate k (.int .u8 0)) ∧ w.grownBy w' v.ownBlock ∧
   (v'.ownBlock = v.ownBlock ∨ ∃ g, v'.ownBlock = some g ∧ w.heap.size ≤ g) := by
 obtain ⟨i, hi, hz0, hz1, hz2⟩ := info_parts infoU8
 have ht : Tryz.prog.underlying 28 = some (.slice 5) := Tryz.underlying28
 have htn : Tryz.prog.underlying 3 = some (.int .i64) := Tryz.underlying3
 rcases hown.2 with ⟨rfl, rfl⟩ | ⟨g, cap, cur, rfl, hbg, hg, hnc, hcm, hcs, htake⟩
 ·have hx : xs = [] := List.eq_nil_of_length_eq_zero (by simpa using hown.1)
  subst hx
  have hr := Lib.run_append_nil_zeros (P := Tryz.prog) w 28 3 28 5 i (.int .u8 0) .i64 .i64 ht htn hi hz0 k hk (by omega) (by omega) (by rw [hz2]; omega)
  have hge := grownCap_ge w k 0 5
  have hcm : grownCap w k 0 5 ≤ maxLen := grownCap_le_maxLen w k 0 5 (by unfold maxLen; omega)
  refine ⟨_, _, hr, ⟨by simp, .inr ⟨w.heap.size, _, _, by rw [Nat.zero_add], hbase, heap_alloc_new w.drew _, by omega, hcm, ?_, ?_⟩⟩, ⟨rfl, rfl, rfl, by simp, fun q hq _ => Below.heap_alloc w.drew _ q hq⟩, .inr ⟨w.heap.size, rfl, Nat.le_refl _⟩⟩
  ·simp only [Array.size_append, size_zeroCells]
   have e : (Value.int .u8 0).cells.size = 1 := rfl
   rw [e]; omega
  ·rw [Array.toList_append, zc1, zc1]
   simp
 ·by_cases hroom : n + k ≤ cap
  ·have hw : IntKind.i64.wrap (k : Int) = k := by rw [IntKind.wrap_i64]; omega
   have hneg : ¬ ((k : Int) < 0) := by omega
   have hk0 : k ≠ 0 := by omega
   have hst := run_storeCells_at Tryz.prog g n 5 (List.replicate k (.int .u8 0)) 0 cur w hg (by simp [hcs]; omega) (fun u hu => by rw [List.eq_of_mem_replicate hu]; rfl)
   have h48i : ¬ (281474976710656 < (k : Int)) := by omega
   have hzc := zc1 k
   have hr : (Builtin.append_ #[28, 3] 28 #[.slice (some ⟨g, 0, none⟩) n cap, .int .i64 k]).run Tryz.prog w = .ok (.slice (some ⟨g, 0, none⟩) (n + k) cap) (w.setRow g (cur.toList.take (n + 0) ++ List.replicate k (Value.int .u8 0) ++ cur.toList.drop (n + 0 + (List.replicate k (Value.int .u8 0)).length)).toArray) := by
    simp [Builtin.append_, run_underlying ht, run_underlying htn, sizeOf, typeInfo, zeroValue, hi, hz0, hz1, hz2, asInt, asIntOf, hw, hneg, hk0, h48i, hroom, Addr.add_lit]
    rw [hzc]
    simpa using congrArg (fun r => r.andThen fun _ w' => Result.ok (Value.slice (some ⟨g, 0, none⟩) (n + k) cap) w') hst
   refine ⟨_, _, hr, ⟨by have := hown.1; simp; omega, .inr ⟨g, cap, _, rfl, hbg, setRow_heap w g cur _ 5 _ hg, hroom, hcm, ?_, ?_⟩⟩, ⟨rfl, rfl, rfl, by simp, fun q _ hq => setRow_other w g q _ (fun e => hq (by simp [Value.ownBlock, e]))⟩, .inl rfl⟩
   ·simp only [List.size_toArray, List.length_append, List.length_take, List.length_drop, Array.length_toList, List.length_replicate]
    omega
   ·have hxl : xs.length = n := by have := hown.1; omega
    have e1 : cur.toList.take (n + 0) = xs := by rw [← htake]; simp
    rw [e1]
    have e2 : (n + k) * 1 = (xs ++ List.replicate k (Value.int .u8 0)).length := by simp [hxl]
    rw [e2]
    exact List.take_left
  ·have hcells : ∀ j u, xs[j]? = some u → w.drew.cell? ((⟨g, 0, none⟩ : Addr).add j) = some u := hown.cells (g := g) rfl
   have holds : (Builtin.firstCells i.size n (.slice (some ⟨g, 0, none⟩) n cap)).run Tryz.prog w.drew = .ok xs.toArray w.drew := run_firstCells_some (P := Tryz.prog) w.drew i.size n ⟨g, 0, none⟩ n cap xs (by rw [hz1]; exact hown.1) hcells
   have hr := Lib.run_append_grow_zeros (P := Tryz.prog) w 28 3 28 5 i (.int .u8 0) .i64 .i64 ht htn hi hz0 (some ⟨g, 0, none⟩) n cap xs holds k hk (by omega) (by omega) (by omega) (by rw [hz2]; omega) (growslice_fits (by omega) (by rw [hz2]; omega))
   have hge := grownCap_ge w (n + k) cap 5
   have hcm2 : grownCap w (n + k) cap 5 ≤ maxLen := grownCap_le_maxLen w (n + k) cap 5 (by unfold maxLen; omega)
   have hxl : xs.length = n := by have := hown.1; omega
   refine ⟨_, _, hr, ⟨by simp [hxl], .inr ⟨w.heap.size, _, _, rfl, hbase, heap_alloc_new w.drew _, by omega, hcm2, ?_, ?_⟩⟩, ⟨rfl, rfl, rfl, by simp, fun q hq _ => Below.heap_alloc w.drew _ q hq⟩, .inr ⟨w.heap.size, rfl, Nat.le_refl _⟩⟩
   ·simp only [Array.size_append, size_zeroCells, List.size_toArray]
    have e : (Value.int .u8 0).cells.size = 1 := rfl
    rw [e]; omega
   ·rw [Array.toList_append, Array.toList_append, zc1, zc1]
    have e2 : (n + k) * 1 = (xs ++ List.replicate k (Value.int .u8 0)).length := by simp [hxl]
    rw [e2]
    exact List.take_left
noncomputable def azRun (w : World) (v x : Value) : Result Value := (Builtin.append_ #[28, 3] 28 #[v, x]).run Tryz.prog w
noncomputable def azA (w : World) (v x : Value) : Option Addr := match azRun w v x with | .ok (.slice a _ _) _ => a | _ => none
noncomputable def azN (w : World) (v x : Value) : Nat := match azRun w v x with | .ok (.slice _ n _) _ => n | _ => 0
noncomputable def azC (w : World) (v x : Value) : Nat := match azRun w v x with | .ok (.slice _ _ c) _ => c | _ => 0
noncomputable def azW (w : World) (v x : Value) : World := match azRun w v x with | .ok _ w' => w' | _ => w
def AzOk (w : World) (v x : Value) : Prop := ∃ a n c w', azRun w v x = .ok (.slice a n c) w'
theorem azOk_run {w : World} {v x : Value} (h : AzOk w v x) : azRun w v x = .ok (.slice (azA w v x) (azN w v x) (azC w v x)) (azW w v x) := by
 obtain ⟨a, n, c, w', h⟩ := h
 unfold azA azN azC azW
 rw [h]
theorem az_rule {w : World} {a : Act} {d : Option Tmp} {s t : Nat} {pos : String} {af : Array Edge} {g : Option (Nat × Bool)} (h : AzOk w (a.eval (.tmp s)) (a.eval (.tmp t))) :
  (execOp a.eval ⟨d, .call { callee := .builtin .append, args := #[.tmp s, .tmp t], argTypes := #[28, 3] }, 28, pos, af, g⟩).run Tryz.prog w =
   .ok (.value (.slice (azA w (a.eval (.tmp s)) (a.eval (.tmp t))) (azN w (a.eval (.tmp s)) (a.eval (.tmp t))) (azC w (a.eval (.tmp s)) (a.eval (.tmp t))))) (azW w (a.eval (.tmp s)) (a.eval (.tmp t))) := by
 have hr := azOk_run h
 unfold azRun at hr
 unfold execOp
 simp only [resolve, invoke, builtin, Sem.run_bind, Sem.run_pure, Result.andThen_ok, List.map_toArray, List.map_cons, List.map_nil, hr]
theorem az_known {w : World} (base : Nat) (v : Value) (n : Nat) (xs : List Value) (hown : w.ownsRow base 5 1 v n xs) (k : Nat) (hk : 0 < k) (hn : n + k ≤ 70000000000) (hbase : base ≤ w.heap.size) :
  AzOk w v (.int .i64 k) ∧ azN w v (.int .i64 k) = n + k ∧ (azW w v (.int .i64 k)).ownsRow base 5 1 (.slice (azA w v (.int .i64 k)) (n + k) (azC w v (.int .i64 k))) (n + k) (xs ++ List.replicate k (.int .u8 0)) ∧ w.grownBy (azW w v (.int .i64 k)) v.ownBlock ∧
   ((Value.slice (azA w v (.int .i64 k)) (n + k) (azC w v (.int .i64 k))).ownBlock = v.ownBlock ∨ ∃ g, (Value.slice (azA w v (.int .i64 k)) (n + k) (azC w v (.int .i64 k))).ownBlock = some g ∧ w.heap.size ≤ g) := by
 obtain ⟨v', w', h1, h2, h3, h4⟩ := run_append_zeros base v n xs hown k hk hn hbase
 obtain ⟨a, c, rfl⟩ := zak h2
 have hr : azRun w v (.int .i64 k) = .ok (.slice a (n + k) c) w' := h1
 have e1 : azA w v (.int .i64 k) = a := by unfold azA; rw [hr]
 have e2 : azN w v (.int .i64 k) = n + k := by unfold azN; rw [hr]
 have e3 : azC w v (.int .i64 k) = c := by unfold azC; rw [hr]
 have e4 : azW w v (.int .i64 k) = w' := by unfold azW; rw [hr]
 rw [e1, e2, e3, e4]
 exact ⟨⟨a, _, c, w', hr⟩, rfl, h2, h3, h4⟩
end
section
def zb9 (d : List UInt8) (pos : Nat) (b : List UInt8) : List UInt8 := (d ++ List.replicate (pos + b.length - d.length) 0).take pos ++ b ++ (d ++ List.replicate (pos + b.length - d.length) 0).drop (pos + b.length)
theorem zdt {w : World} {ops : Array Oper} {rest : List Oper} {o : Oper} {a : Act} {Q : Exit → Act → World → Prop} (hgd : o.guard = none) (dx sx : Operand)
  (ho : o.op = .call { callee := .builtin .copy, args := #[dx, sx], argTypes := #[28, 28] }) (g off dLen dCap : Nat) (hd : a.eval dx = .slice (some ⟨g, off, none⟩) dLen dCap)
  (sv : Value) (l : List UInt8) (hs : a.eval sx = sv) (hl : Src w sv l) (h0 : 0 < l.length) (hle : l.length ≤ dLen) (base n cap : Nat) (xs : List UInt8) (hxs : xs.length = n) (hrow : w.ownsRow base 5 1 (.slice (some ⟨g, 0, none⟩) n cap) n (u8s xs)) (hfit : off + l.length ≤ n)
  (h : ∀ w', w'.ownsRow base 5 1 (.slice (some ⟨g, 0, none⟩) n cap) n (u8s (xs.take off ++ l ++ xs.drop (off + l.length))) → Kept (fun b => b = g) w w' → wpList Tryz.prog ops Q rest (a.put o.dst (goInt l.length)) w') :
  wpList Tryz.prog ops Q (o :: rest) a w := by
 obtain ⟨i, hi, hz0, hz1, hz2⟩ := info_parts infoU8
 rcases hl with ⟨_, rfl⟩ | ⟨ad, c, rfl, _, hcell⟩
 ·simp at h0
 rcases hrow.2 with ⟨h1, _⟩ | ⟨g', cap', cur, h1, r1, r2, r3, r4, r5, r6⟩
 ·cases h1
 simp only [Value.slice.injEq, Option.some.injEq, Addr.mk.injEq] at h1
 obtain ⟨⟨rfl, _⟩, _, rfl⟩ := h1
 have hcells : ∀ j u, (u8s l)[j]? = some u → w.cell? (ad.add j) = some u := by
  intro j u hu
  have hj : j < l.length := by
   have := (List.getElem?_eq_some_iff.1 hu).1
   simpa [u8s] using this
  have h1 := hcell j hj
  have : u = .int .u8 l[j].toNat := by
   unfold u8s at hu
   rw [List.getElem?_map, List.getElem?_eq_getElem hj] at hu
   simpa using hu.symm
  rw [this]
  exact h1
 have hone : ∀ u ∈ u8s l, u.oneCell' = true := by
  intro u hu
  unfold u8s at hu
  obtain ⟨y, _, rfl⟩ := List.mem_map.1 hu
  rfl
 refine wpList_copy_own hgd dx sx _ _ ho 5 Tryz.underlying28 (by rw [hi]; simp [hz1]) g off dLen dCap ad l.length c hd hs cur 5 r2 (u8s l) (by rw [zb1]; exact (Nat.min_eq_left hle).symm) hcells (by rw [zb1]; omega) hone ?_
 rw [zb1]
 refine h _ ⟨?_, .inr ⟨g, cap, _, rfl, r1, setRow_heap w g cur _ 5 _ r2, r3, r4, ?_, ?_⟩⟩ ⟨rfl, rfl, rfl, by simp [World.setRow], fun q _ hq => setRow_other w g q _ hq⟩
 ·rw [zb1]; simp; omega
 ·simp only [List.size_toArray, List.length_append, List.length_take, List.length_drop, Array.length_toList, zb1]
  omega
 ·simp only [Nat.mul_one] at r6 ⊢
  have e1 : cur.toList.take off = u8s (xs.take off) := by
   have h2 := congrArg (List.take off) r6
   rw [List.take_take, Nat.min_eq_left (by omega)] at h2
   rw [h2]; simp [u8s]
  have e2 : (cur.toList.drop (off + l.length)).take (n - (off + l.length)) = u8s (xs.drop (off + l.length)) := by
   rw [List.take_drop, show off + l.length + (n - (off + l.length)) = n by omega, r6]
   simp [u8s]
  rw [e1, ← List.append_assoc, zbw, zbw, ← e2]
  rw [List.take_append]
  have hl1 : (u8s (xs.take off) ++ u8s l).length = off + l.length := by simp [u8s]; omega
  rw [hl1, List.take_of_length_le (by rw [hl1]; omega)]
def ErrPost (E : Nat → Addr) (w : World) (c : Nat) (e : Ending) (w' : World) : Prop := ∃ a, e = .returned (zcb a) ∧ zbu E w.heap.size w' a c ∧ Below w.heap.size w w'
set_option maxRecDepth 100000 in
set_option maxHeartbeats 1000000 in
theorem writeAt_full {E : Nat → Addr} {B : Nat} (f : Nat) (pos : Nat) (ba : Option Addr) (bl bc : Nat) (w : World) (hE : Env E B w) (hp : 65536 < pos + bl) (hbz : bl ≤ 4611686018427387904) :
  Calls Tryz.prog 180 #[.pointer (some ⟨f, 0, none⟩), .int .i64 pos, .slice ba bl bc] w fun e w' => ErrPost E w 19 e w' := by
 have HE : Hid (Env E B w) := hE
 clear hE
 by_cases hbl : 65536 < bl
 ·go_enter Tryz.func180, Tryz.ntmps180
  go_wp2_with fail
  refine (zbl w HE.out 19 (by unfold Used; omega)).mono ?_
  rintro e w2 ⟨a, rfl, hfail, hb2⟩
  have HF : Hid (ErrPost E w 19 (.returned (zcb a)) w2) := ⟨a, rfl, hfail, hb2⟩
  clear hfail hb2
  go_wp2_with fail
  go_ret
  exact HF.out
 ·go_enter Tryz.func180, Tryz.ntmps180
  go_wp2_with fail
  refine (zbl w HE.out 19 (by unfold Used; omega)).mono ?_
  rintro e w2 ⟨a, rfl, hfail, hb2⟩
  have HF : Hid (ErrPost E w 19 (.returned (zcb a)) w2) := ⟨a, rfl, hfail, hb2⟩
  clear hfail hb2
  go_wp2_with fail
  go_ret
  exact HF.out
set_option maxRecDepth 100000 in
set_option maxHeartbeats 1000000 in
theorem writeAt_none (f : Nat) (pos : Nat) (ba : Option Addr) (bc : Nat) (w : World) (hp : pos ≤ 65536) :
  Calls Tryz.prog 180 #[.pointer (some ⟨f, 0, none⟩), .int .i64 pos, .slice ba 0 bc] w fun e w' => e = .returned .nilIface ∧ w' = w := by
 go_enter Tryz.func180, Tryz.ntmps180
 go_wp2_with fail
 go_ret
 exact ⟨rfl, rfl⟩
def WrPost (B : Nat) (w : World) (T : Tr) (k : Nat) (d : Nd) (b : List UInt8) (e : Ending) (w' : World) : Prop :=
 ∃ bv, e = .returned .nilIface ∧ Rep B w' (T.setData k d bv b) ∧ Kept T.foot w w' ∧ (∀ x, (T.setData k d bv b).foot x → T.foot x ∨ w.heap.size ≤ x)
section
attribute [local go_sem ↓] az_rule
set_option maxRecDepth 100000 in
set_option maxHeartbeats 1000000 in
theorem writeAt_ok {B : Nat} {T : Tr} (f : Nat) (pos : Nat) (bv : Value) (b : List UInt8) (w : World) (hB : B ≤ w.heap.size) (hR : Rep B w T) (hck0 : 0 ≤ T.clock) (hck : T.clock ≤ 1152921504606846976)
  (k : Nat) (d : Nd) (hd : T.nd k = some d) (hdir : d.dir = false) (hdl : d.data.length ≤ 65536) (hp : pos + b.length ≤ 65536) (hbl : 0 < b.length) (hb : Src w bv b) (hbf : ∀ x, bv.ownBlock = some x → ¬ T.foot x)
  (hf : w.heap[f]? = some (.cells #[.pointer (some ⟨k, 0, none⟩), .pointer (some ⟨T.tb, 0, none⟩)] 168 (0, 0))) :
  Calls Tryz.prog 180 #[.pointer (some ⟨f, 0, none⟩), .int .i64 pos, bv] w fun e w' => WrPost B w T k d (zb9 d.data pos b) e w' := by
 have HR : Hid (Rep B w T) := hR
 have HD : Hid (T.nd k = some d) := hd
 have HDIR : Hid (d.dir = false) := hdir
 have HS : Hid (Src w bv b) := hb
 have HSF : Hid (∀ x, bv.ownBlock = some x → ¬ T.foot x) := hbf
 have HF : Hid (w.heap[f]? = some (.cells #[.pointer (some ⟨k, 0, none⟩), .pointer (some ⟨T.tb, 0, none⟩)] 168 (0, 0))) := hf
 have hbv : ∃ ba bc, bv = .slice ba b.length bc := by
  rcases hb with ⟨h1, h2⟩ | ⟨ad, c, h1, _⟩
  ·exact ⟨none, 0, by rw [h1, h2]; rfl⟩
  ·exact ⟨_, _, h1⟩
 obtain ⟨ba, bc, rfl⟩ := hbv
 have hf0 : w.cell? ⟨f, 0, none⟩ = some (.pointer (some ⟨k, 0, none⟩)) := zaa hf rfl
 have hf1 : w.cell? ⟨f, 1, none⟩ = some (.pointer (some ⟨T.tb, 0, none⟩)) := zaa hf rfl
 have hc1 : w.cell? ⟨k, 1, none⟩ = some d.bv := zaa (hR.node k d hd).cells rfl
 obtain ⟨av, cv, hbv⟩ := zak (hR.node k d hd).row
 have hrow := (hR.node k d hd).row
 rw [hbv] at hc1 hrow
 have HBV : Hid (d.bv = .slice av d.data.length cv) := hbv
 have hkl : k < w.heap.size := hR.node_lt hd
 have HROW : Hid (w.ownsRow B 5 1 (.slice av d.data.length cv) d.data.length (u8s d.data)) := hrow
 clear hbv hR hd hdir hb hbf hf hrow
 generalize hdlen : d.data.length = dl at *
 have HDL : Hid (d.data.length = dl) := hdlen
 clear hdlen
 by_cases hmore : pos + b.length ≤ dl
 ·have hav : ∃ g, av = some ⟨g, 0, none⟩ ∧ dl ≤ cv := by
   rcases HROW.out.2 with ⟨h1, h2⟩ | ⟨g, cap, cur, h1, _, _, h2, _⟩
   ·omega
   ·simp only [Value.slice.injEq] at h1
    obtain ⟨rfl, _, rfl⟩ := h1
    exact ⟨g, rfl, h2⟩
  obtain ⟨g, rfl, hcv⟩ := hav
  have hpc : pos < cv := by omega
  go_enter Tryz.func180, Tryz.ntmps180
  go_wp2_with (with_reducible refine zdt rfl _ _ rfl g pos _ _ rfl (.slice ba b.length bc) b rfl HS.out hbl ?clen B dl cv d.data HDL.out HROW.out ?cfit ?_)
  case clen => omega
  case cfit => omega
  intro w3 hrow3 hk3
  have HROW3 := hid hrow3
  have HK3 := hid hk3
  clear hrow3 hk3
  have HFG : Hid (g ≠ f ∧ g ≠ k ∧ g ≠ T.tb) := by
   obtain ⟨cg, hcg⟩ := zbd (HROW.out) (r := g) rfl
   exact ⟨zac hcg HF.out (by decide), zac hcg (HR.out.node k d HD.out).cells (by decide), zac hcg HR.out.tree (by decide)⟩
  have HF3 : Hid (w3.heap[f]? = some (.cells #[.pointer (some ⟨k, 0, none⟩), .pointer (some ⟨T.tb, 0, none⟩)] 168 (0, 0))) := (HK3.out.block _ (zab HF.out) (Ne.symm HFG.out.1)).trans HF.out
  have HN3 : Hid (w3.heap[k]? = some (.cells #[.bool d.dir, d.bv, mapV d, .int .i64 d.links, .int .i64 d.tick] 107 (0, 0))) := (HK3.out.block _ (zab (HR.out.node k d HD.out).cells) (Ne.symm HFG.out.2.1)).trans (HR.out.node k d HD.out).cells
  have HT3 : Hid (w3.heap[T.tb]? = some (.cells #[ptrV (some T.root), .int .i64 T.clock, .int .i64 T.count] 115 (0, 0))) := (HK3.out.block _ (zab HR.out.tree) (Ne.symm HFG.out.2.2)).trans HR.out.tree
  have HTK : Hid (∀ W, Kept (fun _ => False) w3 W → W.heap[w3.heap.size]? = some (.cells #[.pointer (some ⟨k, 0, none⟩)] 103 (0, 0)) →
    Calls Tryz.prog 57 #[.pointer (some ⟨T.tb, 0, none⟩), .slice (some ⟨w3.heap.size, 0, none⟩) 1 1] W fun e w' => TickPost1 W T.tb k (ptrV (some T.root)) (.int .i64 T.count) (.bool d.dir) (d.bv) (mapV d) (.int .i64 d.links) T.clock e w') :=
   fun W hW hS => tick1 hck0 hck ((hW.block _ (zab HT3.out) (fun hf => hf)).trans HT3.out) ((hW.block _ (zab HN3.out) (fun hf => hf)).trans HN3.out) hS
  have hf30 : w3.cell? ⟨f, 0, none⟩ = some (.pointer (some ⟨k, 0, none⟩)) := zaa HF3.out rfl
  have hf31 : w3.cell? ⟨f, 1, none⟩ = some (.pointer (some ⟨T.tb, 0, none⟩)) := zaa HF3.out rfl
  have hfl3 : f < w3.heap.size := zab HF3.out
  clear hf0 hf1 hc1
  go_wp2_with fail
  go_region_with (go_at_call 57; refine (HTK.out _ (((Kept.refl _ w3).alloc _).drew) (heap_alloc_new w3 _)).mono ?_; rintro e w4 ⟨rfl, hT4, hN4, hK4⟩)
  all_goals
   have HFIN : Hid (WrPost B w T k d (zb9 d.data pos b) (.returned .nilIface) w4) := by
    have hK : Kept (zez T k d) w w4 := by
     refine ((HK3.out.mono (F1 := zez T k d) (fun x hx => ?_)).alloc _).drew.trans hK4 (fun x hx => ?_)
     ·subst hx
      exact .inr (.inr (.inr (by rw [HBV.out]; rfl)))
     ·rcases hx with rfl | rfl
      ·exact .inl (.inl rfl)
      ·exact .inl (.inr (.inl rfl))
    have hW4 : w4.ownsRow B 5 1 (d.bv) (zb9 d.data pos b).length (u8s (zb9 d.data pos b)) := by
     have h1 := zai (HROW3.out) (F := fun b => b = T.tb ∨ b = k) (((Kept.of_below (zad w3 _) (fun b => b = T.tb ∨ b = k)).drew).trans hK4 (fun x hx => .inl hx)) (fun r hr hf => by
      simp only [Value.ownBlock, Option.some.injEq] at hr
      subst hr
      rcases hf with h | h
      ·exact HFG.out.2.2 h
      ·exact HFG.out.2.1 h)
     have e : zb9 d.data pos b = d.data.take pos ++ b ++ d.data.drop (pos + b.length) := by
      unfold zb9
      rw [show pos + b.length - d.data.length = 0 by rw [HDL.out]; omega]
      simp
     have el : (zb9 d.data pos b).length = dl := by
      rw [e]
      have := HDL.out
      simp
      omega
     rw [el, e, HBV.out, List.append_assoc]
     exact h1
    have hrep := zd6 (b := zb9 d.data pos b) (bv := d.bv) (w' := w4) HR.out HD.out HDIR.out hK hT4 hN4 hW4 (fun r hr => .inr hr)
    exact ⟨d.bv, rfl, hrep.1, hK.mono (fun x hx => hx.foot HD.out), hrep.2⟩
   clear hT4 hN4 hK4
   go_wp2_with fail
   go_ret
   exact HFIN.out
 ·obtain ⟨m, hm⟩ : ∃ m, pos + b.length = dl + m := ⟨pos + b.length - dl, by omega⟩
  have hmI : (pos : Int) + (b.length : Int) - (dl : Int) = (m : Int) := by omega
  have HM : Hid (pos + b.length - dl = m) := by show pos + b.length - dl = m; omega
  have HROWD : Hid (w.drew.ownsRow B 5 1 (.slice av dl cv) dl (u8s d.data)) := HROW.out
  obtain ⟨hok, hazN, hown2, hgrow2, hnew2⟩ := az_known B (.slice av dl cv) dl (u8s d.data) HROWD.out m (by omega) (by omega) (show B ≤ w.drew.heap.size from hB)
  rw [← hmI] at hok hazN hown2 hgrow2 hnew2
  rw [← hm] at hazN hown2 hnew2
  have hz : ∃ g2 c2, azA w.drew (.slice av dl cv) (.int .i64 ((pos : Int) + (b.length : Int) - (dl : Int))) = some ⟨g2, 0, none⟩ ∧ azC w.drew (.slice av dl cv) (.int .i64 ((pos : Int) + (b.length : Int) - (dl : Int))) = c2 ∧ pos + b.length ≤ c2 := by
   rcases hown2.2 with ⟨h1, h2⟩ | ⟨g2, cap, cur, h1, _, _, h2, _⟩
   ·omega
   ·simp only [Value.slice.injEq] at h1
    exact ⟨g2, cap, h1.1, h1.2.2, h2⟩
  obtain ⟨g, c2, hazA, hazC, hcv⟩ := hz
  rw [hazA, hazC] at hown2 hnew2
  have hpc : pos < c2 := by omega
  have HNEW : Hid (∀ r, (Value.slice (some ⟨g, 0, none⟩) (pos + b.length) c2).ownBlock = some r → w.heap.size ≤ r ∨ d.bv.ownBlock = some r) := by
   intro r hr
   rcases hnew2 with h | ⟨q, h1, h2⟩
   ·rw [h] at hr
    rw [HBV.out]
    exact .inr hr
   ·rw [h1] at hr
    obtain rfl := Option.some.inj hr
    exact .inl h2
  have hgk : ∀ (x : Nat) (c : Array Value) (t : TypeId), w.heap[x]? = some (.cells c t (0, 0)) → t ≠ 5 → (azW w.drew (.slice av dl cv) (.int .i64 ((pos : Int) + (b.length : Int) - (dl : Int)))).heap[x]? = some (.cells c t (0, 0)) := by
   intro x c t hx ht
   refine (hgrow2.block x (zab hx) (fun e => ?_)).trans hx
   obtain ⟨cr, hcr⟩ := zbd HROW.out e.symm
   exact zac hx hcr ht rfl
  have HFZ := hid (hgk f _ _ HF.out (by decide))
  have HNZ := hid (hgk k _ _ (HR.out.node k d HD.out).cells (by decide))
  have HTZ := hid (hgk T.tb _ _ HR.out.tree (by decide))
  have HGZ : Hid (Kept (zez T k d) w (azW w.drew (.slice av dl cv) (.int .i64 ((pos : Int) + (b.length : Int) - (dl : Int))))) :=
   (Kept.refl (zez T k d) w).grown ⟨hgrow2.os, hgrow2.tape, hgrow2.output, hgrow2.size, hgrow2.block⟩ (fun r hr => .inl (.inr (.inr (.inr (by rw [HBV.out]; exact hr)))))
  have HOZ := hid hown2
  have HSZ : Hid (Src (azW w.drew (.slice av dl cv) (.int .i64 ((pos : Int) + (b.length : Int) - (dl : Int)))) (.slice ba b.length bc) b) := HS.out.kept HGZ.out (fun x hx hf => HSF.out x hx (hf.foot HD.out))
  have HAZ := hid hazA
  have HCZ := hid hazC
  have HNNZ := hid hazN
  clear hown2 hgrow2 hnew2 hgk hm hmI hazA hazC hazN
  have hy0 : (azW w.drew (.slice av dl cv) (.int .i64 ((pos : Int) + (b.length : Int) - (dl : Int)))).cell? ⟨f, 0, none⟩ = some (.pointer (some ⟨k, 0, none⟩)) := zaa HFZ.out rfl
  have hy1 : (azW w.drew (.slice av dl cv) (.int .i64 ((pos : Int) + (b.length : Int) - (dl : Int)))).cell? ⟨k, 1, none⟩ = some d.bv := zaa HNZ.out rfl
  have hy2 : ∀ o, (azW w.drew (.slice av dl cv) (.int .i64 ((pos : Int) + (b.length : Int) - (dl : Int)))).frozen? ⟨k, o, none⟩ = false := fun o => zah HNZ.out o
  have hfk : f ≠ k := zac HF.out (HR.out.node k d HD.out).cells (by decide)
  have hkf : k ≠ f := Ne.symm hfk
  go_enter Tryz.func180, Tryz.ntmps180
  go_wp2_with fail
  go_region
  rw [HAZ.out, HCZ.out, HNNZ.out]
  have HW2 : Hid (∃ w2, w2 = ((azW w.drew (.slice av dl cv) (.int .i64 ((pos : Int) + (b.length : Int) - (dl : Int)))).setCell ⟨k, 1, none⟩ (.slice (some ⟨g, 0, none⟩) (pos + b.length) c2))) := ⟨_, rfl⟩
  have HN2 : Hid (((azW w.drew (.slice av dl cv) (.int .i64 ((pos : Int) + (b.length : Int) - (dl : Int)))).setCell ⟨k, 1, none⟩ (.slice (some ⟨g, 0, none⟩) (pos + b.length) c2)).heap[k]? = some (.cells #[.bool d.dir, .slice (some ⟨g, 0, none⟩) (pos + b.length) c2, mapV d, .int .i64 d.links, .int .i64 d.tick] 107 (0, 0))) := zaj HNZ.out 1 _
  have HF2 : Hid (((azW w.drew (.slice av dl cv) (.int .i64 ((pos : Int) + (b.length : Int) - (dl : Int)))).setCell ⟨k, 1, none⟩ (.slice (some ⟨g, 0, none⟩) (pos + b.length) c2)).heap[f]? = some (.cells #[.pointer (some ⟨k, 0, none⟩), .pointer (some ⟨T.tb, 0, none⟩)] 168 (0, 0))) := (zag _ _ _ hfk).trans HFZ.out
  have HT2 : Hid (((azW w.drew (.slice av dl cv) (.int .i64 ((pos : Int) + (b.length : Int) - (dl : Int)))).setCell ⟨k, 1, none⟩ (.slice (some ⟨g, 0, none⟩) (pos + b.length) c2)).heap[T.tb]? = some (.cells #[ptrV (some T.root), .int .i64 T.clock, .int .i64 T.count] 115 (0, 0))) := (zag _ _ _ (zac HTZ.out HNZ.out (by decide))).trans HTZ.out
  have HK2 : Hid (Kept (zez T k d) w ((azW w.drew (.slice av dl cv) (.int .i64 ((pos : Int) + (b.length : Int) - (dl : Int)))).setCell ⟨k, 1, none⟩ (.slice (some ⟨g, 0, none⟩) (pos + b.length) c2))) := HGZ.out.setCell (.inl (.inr (.inl rfl))) _
  have HSK : Hid (Kept (fun x => x = k) (azW w.drew (.slice av dl cv) (.int .i64 ((pos : Int) + (b.length : Int) - (dl : Int)))) ((azW w.drew (.slice av dl cv) (.int .i64 ((pos : Int) + (b.length : Int) - (dl : Int)))).setCell ⟨k, 1, none⟩ (.slice (some ⟨g, 0, none⟩) (pos + b.length) c2))) := (Kept.refl (fun x => x = k) _).setCell (p := ⟨k, 1, none⟩) (.inl rfl) _
  have HROW2 : Hid (((azW w.drew (.slice av dl cv) (.int .i64 ((pos : Int) + (b.length : Int) - (dl : Int)))).setCell ⟨k, 1, none⟩ (.slice (some ⟨g, 0, none⟩) (pos + b.length) c2)).ownsRow B 5 1 (.slice (some ⟨g, 0, none⟩) (pos + b.length) c2) (pos + b.length) (u8s (d.data ++ List.replicate m 0))) := by
   have h1 : (azW w.drew (.slice av dl cv) (.int .i64 ((pos : Int) + (b.length : Int) - (dl : Int)))).ownsRow B 5 1 (.slice (some ⟨g, 0, none⟩) (pos + b.length) c2) (pos + b.length) (u8s (d.data ++ List.replicate m 0)) := by
    have h2 := HOZ.out
    rw [zbw]
    have e : u8s (List.replicate m 0) = List.replicate m (Value.int .u8 0) := by simp [u8s]
    rw [e]
    exact h2
   refine zai h1 HSK.out (fun r hr hf => ?_)
   obtain ⟨cr, hcr⟩ := zbd h1 hr
   exact zac hcr HNZ.out (by decide) hf
  have HS2 : Hid (Src ((azW w.drew (.slice av dl cv) (.int .i64 ((pos : Int) + (b.length : Int) - (dl : Int)))).setCell ⟨k, 1, none⟩ (.slice (some ⟨g, 0, none⟩) (pos + b.length) c2)) (.slice ba b.length bc) b) := HSZ.out.kept HSK.out (fun x hx hf => HSF.out x hx (by rw [hf]; exact .inr (.inl ⟨d, HD.out⟩)))
  have HDLm : Hid ((d.data ++ List.replicate m 0).length = pos + b.length) := by
   have h1 := HDL.out
   have h2 := HM.out
   show _ = _
   simp
   omega
  clear HAZ HCZ HNNZ HOZ HSZ HSK HFZ HNZ HTZ HGZ hy0 hy1 hy2 HW2 hok
  clear hf0 hf1 hc1
  generalize ((azW w.drew (.slice av dl cv) (.int .i64 ((pos : Int) + (b.length : Int) - (dl : Int)))).setCell ⟨k, 1, none⟩ (.slice (some ⟨g, 0, none⟩) (pos + b.length) c2)) = w2 at *
  have hf0 : w2.cell? ⟨f, 0, none⟩ = some (.pointer (some ⟨k, 0, none⟩)) := zaa HF2.out rfl
  have hf1 : w2.cell? ⟨f, 1, none⟩ = some (.pointer (some ⟨T.tb, 0, none⟩)) := zaa HF2.out rfl
  have hc1 : w2.cell? ⟨k, 1, none⟩ = some (.slice (some ⟨g, 0, none⟩) (pos + b.length) c2) := zaa HN2.out rfl
  clear hkl hfk hkf
  go_wp2_with (with_reducible refine zdt rfl _ _ rfl g pos _ _ rfl (.slice ba b.length bc) b rfl HS2.out hbl ?clen B (pos + b.length) c2 (d.data ++ List.replicate m 0) HDLm.out HROW2.out ?cfit ?_)
  case clen => omega
  case cfit => omega
  intro w3 hrow3 hk3
  have HROW3 := hid hrow3
  have HK3 := hid hk3
  clear hrow3 hk3
  have HFG : Hid (g ≠ f ∧ g ≠ k ∧ g ≠ T.tb) := by
   obtain ⟨cg, hcg⟩ := zbd (HROW2.out) (r := g) rfl
   exact ⟨zac hcg HF2.out (by decide), zac hcg HN2.out (by decide), zac hcg HT2.out (by decide)⟩
  have HF3 : Hid (w3.heap[f]? = some (.cells #[.pointer (some ⟨k, 0, none⟩), .pointer (some ⟨T.tb, 0, none⟩)] 168 (0, 0))) := (HK3.out.block _ (zab HF2.out) (Ne.symm HFG.out.1)).trans HF2.out
  have HN3 : Hid (w3.heap[k]? = some (.cells #[.bool d.dir, (.slice (some ⟨g, 0, none⟩) (pos + b.length) c2), mapV d, .int .i64 d.links, .int .i64 d.tick] 107 (0, 0))) := (HK3.out.block _ (zab HN2.out) (Ne.symm HFG.out.2.1)).trans HN2.out
  have HT3 : Hid (w3.heap[T.tb]? = some (.cells #[ptrV (some T.root), .int .i64 T.clock, .int .i64 T.count] 115 (0, 0))) := (HK3.out.block _ (zab HT2.out) (Ne.symm HFG.out.2.2)).trans HT2.out
  have HTK : Hid (∀ W, Kept (fun _ => False) w3 W → W.heap[w3.heap.size]? = some (.cells #[.pointer (some ⟨k, 0, none⟩)] 103 (0, 0)) →
    Calls Tryz.prog 57 #[.pointer (some ⟨T.tb, 0, none⟩), .slice (some ⟨w3.heap.size, 0, none⟩) 1 1] W fun e w' => TickPost1 W T.tb k (ptrV (some T.root)) (.int .i64 T.count) (.bool d.dir) ((.slice (some ⟨g, 0, none⟩) (pos + b.length) c2)) (mapV d) (.int .i64 d.links) T.clock e w') :=
   fun W hW hS => tick1 hck0 hck ((hW.block _ (zab HT3.out) (fun hf => hf)).trans HT3.out) ((hW.block _ (zab HN3.out) (fun hf => hf)).trans HN3.out) hS
  have hf30 : w3.cell? ⟨f, 0, none⟩ = some (.pointer (some ⟨k, 0, none⟩)) := zaa HF3.out rfl
  have hf31 : w3.cell? ⟨f, 1, none⟩ = some (.pointer (some ⟨T.tb, 0, none⟩)) := zaa HF3.out rfl
  have hfl3 : f < w3.heap.size := zab HF3.out
  clear hf0 hf1 hc1
  go_wp2_with fail
  go_region_with (go_at_call 57; refine (HTK.out _ (((Kept.refl _ w3).alloc _).drew) (heap_alloc_new w3 _)).mono ?_; rintro e w4 ⟨rfl, hT4, hN4, hK4⟩)
  all_goals
   have HFIN : Hid (WrPost B w T k d (zb9 d.data pos b) (.returned .nilIface) w4) := by
    have hK : Kept (zez T k d) w w4 := by
     refine ((HK2.out.trans HK3.out (fun x hx => ?_)).alloc _).drew.trans hK4 (fun x hx => ?_)
     ·subst hx
      rcases HNEW.out x rfl with h | h
      ·exact .inr h
      ·exact .inl (.inr (.inr (.inr h)))
     ·rcases hx with rfl | rfl
      ·exact .inl (.inl rfl)
      ·exact .inl (.inr (.inl rfl))
    have hW4 : w4.ownsRow B 5 1 ((.slice (some ⟨g, 0, none⟩) (pos + b.length) c2)) (zb9 d.data pos b).length (u8s (zb9 d.data pos b)) := by
     have h1 := zai (HROW3.out) (F := fun b => b = T.tb ∨ b = k) (((Kept.of_below (zad w3 _) (fun b => b = T.tb ∨ b = k)).drew).trans hK4 (fun x hx => .inl hx)) (fun r hr hf => by
      simp only [Value.ownBlock, Option.some.injEq] at hr
      subst hr
      rcases hf with h | h
      ·exact HFG.out.2.2 h
      ·exact HFG.out.2.1 h)
     have el : (zb9 d.data pos b).length = pos + b.length := by
      unfold zb9
      have := HDL.out
      simp
      omega
     rw [el]
     show w4.ownsRow _ _ _ _ _ (u8s ((d.data ++ List.replicate (pos + b.length - d.data.length) 0).take pos ++ b ++ (d.data ++ List.replicate (pos + b.length - d.data.length) 0).drop (pos + b.length)))
     rw [HDL.out, HM.out, List.append_assoc]
     exact h1
    have hrep := zd6 (b := zb9 d.data pos b) (bv := (.slice (some ⟨g, 0, none⟩) (pos + b.length) c2)) (w' := w4) HR.out HD.out HDIR.out hK hT4 hN4 hW4 HNEW.out
    exact ⟨(.slice (some ⟨g, 0, none⟩) (pos + b.length) c2), rfl, hrep.1, hK.mono (fun x hx => hx.foot HD.out), hrep.2⟩
   clear hT4 hN4 hK4
   go_wp2_with fail
   go_ret
   exact HFIN.out
end
end
section
def FWPost (B : Nat) (w : World) (T : Tr) (b0 fb : Nat) (way : Int) (k : Nat) (d : Nd) (p : Nat) (b : List UInt8) (e : Ending) (w' : World) : Prop :=
 ∃ bv, e = .returned .nilIface ∧ Rep B w' (T.setData k d bv (zb9 d.data p b)) ∧ w'.heap[b0]? = some (.cells #[.pointer (some ⟨fb, 0, none⟩), .int .i64 way, .int .i64 ((p + b.length : Nat) : Int)] 125 (0, 0)) ∧
  Kept (fun x => T.foot x ∨ x = b0) w w' ∧ (∀ x, (T.setData k d bv (zb9 d.data p b)).foot x → T.foot x ∨ w.heap.size ≤ x)
set_option maxRecDepth 100000 in
set_option maxHeartbeats 1000000 in
theorem fwrite_ok {B : Nat} {T : Tr} (b0 fb p : Nat) (bv : Value) (b : List UInt8) (w : World) (hB : B ≤ w.heap.size) (hR : Rep B w T) (hck0 : 0 ≤ T.clock) (hck : T.clock ≤ 1152921504606846976)
  (k : Nat) (d : Nd) (hd : T.nd k = some d) (hdir : d.dir = false) (hdl : d.data.length ≤ 65536) (hp : p + b.length ≤ 65536) (hbl : 0 < b.length) (hb : Src w bv b) (hbf : ∀ x, bv.ownBlock = some x → ¬ T.foot x)
  (h0 : w.heap[b0]? = some (.cells #[.pointer (some ⟨fb, 0, none⟩), .int .i64 1, .int .i64 p] 125 (0, 0))) (h0T : ¬ T.foot b0)
  (hf : w.heap[fb]? = some (.cells #[.pointer (some ⟨k, 0, none⟩), .pointer (some ⟨T.tb, 0, none⟩)] 168 (0, 0))) :
  Calls Tryz.prog 178 #[.pointer (some ⟨b0, 0, none⟩), bv] w fun e w' => FWPost B w T b0 fb 1 k d p b e w' := by
 have HWA : Hid (∀ W, Kept (fun _ => False) w W → Calls Tryz.prog 180 #[.pointer (some ⟨fb, 0, none⟩), .int .i64 p, bv] W fun e w' => WrPost B W T k d (zb9 d.data p b) e w') :=
  fun W hW => writeAt_ok fb p bv b W (Nat.le_trans hB hW.size) (hR.kept hW (fun _ _ h => h)) hck0 hck k d hd hdir hdl hp hbl (hb.kept hW (fun _ _ h => h)) hbf ((hW.block _ (zab hf) (fun h => h)).trans hf)
 have hbv : ∃ ba bc, bv = .slice ba b.length bc := by
  rcases hb with ⟨h1, h2⟩ | ⟨ad, c, h1, _⟩
  ·exact ⟨none, 0, by rw [h1, h2]; rfl⟩
  ·exact ⟨_, _, h1⟩
 obtain ⟨ba, bc, rfl⟩ := hbv
 have H0 := hid h0
 have H0T := hid h0T
 have g0 : w.cell? ⟨b0, 0, none⟩ = some (.pointer (some ⟨fb, 0, none⟩)) := zaa h0 rfl
 have g1 : w.cell? ⟨b0, 1, none⟩ = some (.int .i64 1) := zaa h0 rfl
 have g2 : w.cell? ⟨b0, 2, none⟩ = some (.int .i64 p) := zaa h0 rfl
 clear hR hd hdir hdl hb hbf h0 h0T hf hck0 hck
 go_enter Tryz.func178, Tryz.ntmps178
 go_wp2_with fail
 go_region_with (go_at_call 180; refine (HWA.out _ (Kept.refl _ w).drew).mono ?_; rintro e w1 ⟨bv1, rfl, hR1, hk1, hf1⟩)
 all_goals
  have hk1 : Kept T.foot w w1 := ⟨hk1.os, hk1.tape, hk1.output, hk1.size, hk1.block⟩
  have H1 : Hid (w1.heap[b0]? = some (.cells #[.pointer (some ⟨fb, 0, none⟩), .int .i64 1, .int .i64 p] 125 (0, 0))) := (hk1.block _ (zab H0.out) H0T.out).trans H0.out
  have HFIN : Hid (FWPost B w T b0 fb 1 k d p b (.returned .nilIface) (w1.setCell ⟨b0, 2, none⟩ (.int .i64 ((p : Int) + (b.length : Int))))) := by
   refine ⟨bv1, rfl, ?_, ?_, ?_, hf1⟩
   ·refine hR1.kept (F := fun x => x = b0) ((Kept.refl (fun x => x = b0) w1).setCell (p := ⟨b0, 2, none⟩) (Or.inl rfl) _) (fun x hx he => ?_)
    rcases hf1 x hx with h | h
    ·exact H0T.out (he ▸ h)
    ·have h9 := zab H0.out
     have h8 : w.drew.heap.size = w.heap.size := rfl
     omega
   ·rw [Int.natCast_add]
    exact zaj H1.out 2 _
   ·exact (hk1.mono (F1 := fun x => T.foot x ∨ x = b0) (fun x hx => Or.inl hx)).setCell (p := ⟨b0, 2, none⟩) (Or.inl (Or.inr rfl)) _
  clear hR1 hk1 hf1 g0 g1 g2
  have g0 : w1.cell? ⟨b0, 2, none⟩ = some (.int .i64 p) := zaa H1.out rfl
  have g1 : ∀ o, w1.frozen? ⟨b0, o, none⟩ = false := fun o => zah H1.out o
  go_wp2_with fail
  go_ret
  exact HFIN.out
theorem KRep.wrote {B : Nat} {w w' : World} {K : Ks} (h : KRep B w K) {b0 : Nat} {f : Fl} (hf0 : K.fl b0 = some f) {T' : Tr} (hT : Rep B w' T') (htb : T'.tb = K.T.tb) (k : Kept (fun x => K.T.foot x ∨ x = b0) w w') (hfoot : ∀ x, T'.foot x → K.T.foot x ∨ w.heap.size ≤ x)
  (hfiles : ∀ n d, K.T.nd n = some d → d.dir = false → ∃ d', T'.nd n = some d' ∧ d'.dir = false) {pos : Int}
  (hb : w'.heap[b0]? = some (.cells #[ptrV (some f.fb), .int .i64 f.way, .int .i64 pos] 125 (0, 0))) : KRep B w' { K with T := T', fl := zaz K.fl b0 { f with pos := pos } } := by
 have h0 := (h.file b0 f hf0).1
 have own : ∀ x, ({ K with T := T', fl := zaz K.fl b0 { f with pos := pos } } : Ks).own x → K.own x := by
  rintro x (h1 | h1 | h1 | h1 | h1 | h1 | h1 | ⟨g, h1⟩ | ⟨c, g, h1, h2⟩)
  ·exact .inl h1
  ·exact .inr (.inl h1)
  ·exact .inr (.inr (.inl h1))
  ·exact .inr (.inr (.inr (.inl h1)))
  ·exact .inr (.inr (.inr (.inr (.inl h1))))
  ·exact .inr (.inr (.inr (.inr (.inr (.inl h1)))))
  ·exact .inr (.inr (.inr (.inr (.inr (.inr (.inl h1))))))
  ·have h3 : zaz K.fl b0 { f with pos := pos } x = some g := h1
   unfold zaz at h3
   by_cases hx : x = b0
   ·subst hx
    exact .inr (.inr (.inr (.inr (.inr (.inr (.inr (.inl ⟨f, hf0⟩)))))))
   ·rw [if_neg hx] at h3
    exact .inr (.inr (.inr (.inr (.inr (.inr (.inr (.inl ⟨g, h3⟩)))))))
  ·have h3 : zaz K.fl b0 { f with pos := pos } c = some g := h1
   unfold zaz at h3
   by_cases hc : c = b0
   ·rw [if_pos hc] at h3
    obtain rfl := Option.some.inj h3
    exact .inr (.inr (.inr (.inr (.inr (.inr (.inr (.inr ⟨b0, f, hf0, h2⟩)))))))
   ·rw [if_neg hc] at h3
    exact .inr (.inr (.inr (.inr (.inr (.inr (.inr (.inr ⟨c, g, h3, h2⟩)))))))
 have key : ∀ b, K.own b → b ≠ b0 → ¬ (K.T.foot b ∨ b = b0) := fun b hb hn hf => by
  rcases hf with hf | hf
  ·exact h.apart b hb hf
  ·exact hn hf
 obtain ⟨ck, hck, _⟩ := h.kern.cells
 refine ⟨?_, hT, fun x hx => h.low x (own x hx), fun b hb hf => ?_, ?_, ?_, fun r hr => ?_, ?_, ?_, ?_, ?_, h.two, h.rows1, h.rows2, h.rows3, fun b g hg => ?_, fun j => ?_⟩
 ·have h1 := h.kern.kept k (key _ (.inl rfl) (zac hck h0 (by decide)))
  rw [← htb] at h1
  exact h1
 ·rcases hfoot b hf with h1 | h1
  ·exact h.apart b (own b hb) h1
  ·exact absurd (h.own_lt (own b hb)) (by omega)
 ·exact (k.block _ (zab h.inp) (key _ (.inr (.inl rfl)) (zac h.inp h0 (by decide)))).trans h.inp
 ·refine h.inS.kept k (fun b hb => key b (.inr (.inr (.inr (.inr (.inl hb))))) ?_)
  obtain ⟨c, hc⟩ := h.inT b hb
  exact zac hc h0 (by decide)
 ·obtain ⟨c, hc⟩ := h.inT r hr
  exact ⟨c, (k.block _ (zab hc) (key _ (.inr (.inr (.inr (.inr (.inl hr))))) (zac hc h0 (by decide)))).trans hc⟩
 ·exact (k.block _ (zab h.out) (key _ (.inr (.inr (.inl rfl))) (zac h.out h0 (by decide)))).trans h.out
 ·refine zai h.outS k (fun b hb => key b (.inr (.inr (.inr (.inr (.inr (.inl hb)))))) ?_)
  obtain ⟨c, hc⟩ := zbd h.outS hb
  exact zac hc h0 (by decide)
 ·exact (k.block _ (zab h.err) (key _ (.inr (.inr (.inr (.inl rfl)))) (zac h.err h0 (by decide)))).trans h.err
 ·refine zai h.errS k (fun b hb => key b (.inr (.inr (.inr (.inr (.inr (.inr (.inl hb))))))) ?_)
  obtain ⟨c, hc⟩ := zbd h.errS hb
  exact zac hc h0 (by decide)
 ·have h3 : zaz K.fl b0 { f with pos := pos } b = some g := hg
  unfold zaz at h3
  have hfile : ∀ b g, K.fl b = some g → w'.heap[g.fb]? = some (.cells #[ptrV (some g.node), ptrV (some K.T.tb)] 168 (0, 0)) := fun b g hg =>
   (k.block _ (zab (h.file b g hg).2.1) (key _ (.inr (.inr (.inr (.inr (.inr (.inr (.inr (.inr ⟨b, g, hg, rfl⟩)))))))) (zac (h.file b g hg).2.1 h0 (by decide)))).trans (h.file b g hg).2.1
  have hnode : ∀ b g, K.fl b = some g → ∃ d, T'.nd g.node = some d ∧ d.dir = false := fun b g hg => by
   obtain ⟨d, h1, h2⟩ := (h.file b g hg).2.2
   exact hfiles _ d h1 h2
  by_cases hx : b = b0
  ·rw [if_pos hx] at h3
   obtain rfl := Option.some.inj h3
   subst hx
   refine ⟨hb, ?_, hnode b f hf0⟩
   show w'.heap[f.fb]? = some (.cells #[ptrV (some f.node), ptrV (some T'.tb)] 168 (0, 0))
   rw [htb]
   exact hfile b f hf0
  ·rw [if_neg hx] at h3
   refine ⟨?_, ?_, hnode b g h3⟩
   ·exact (k.block _ (zab (h.file b g h3).1) (key _ (.inr (.inr (.inr (.inr (.inr (.inr (.inr (.inl ⟨g, h3⟩)))))))) hx)).trans (h.file b g h3).1
   ·show w'.heap[g.fb]? = some (.cells #[ptrV (some g.node), ptrV (some T'.tb)] 168 (0, 0))
    rw [htb]
    exact hfile b g h3
 ·have hg := h.goodFds j
  show Ks.good _ (K.fds j)
  cases hj : K.fds j with
  | none => trivial
  | some e =>
   rw [hj] at hg
   cases e with
   | inp c => exact hg
   | out c => exact hg
   | file c =>
    obtain ⟨g, hg⟩ := hg
    by_cases hc : c = b0
    ·exact ⟨{ f with pos := pos }, by show zaz K.fl b0 _ c = _; unfold zaz; rw [if_pos hc]⟩
    ·exact ⟨g, by show zaz K.fl b0 _ c = _; unfold zaz; rw [if_neg hc]; exact hg⟩
def Ks.wrote (K : Ks) (b0 : Nat) (f : Fl) (d : Nd) (bv : Value) (p : Nat) (b : List UInt8) : Ks :=
 { K with T := K.T.setData f.node d bv (zb9 d.data p b), fl := zaz K.fl b0 { f with pos := ((p + b.length : Nat) : Int) } }
def KWPost (B : Nat) (w : World) (K : Ks) (b0 : Nat) (f : Fl) (d : Nd) (p : Nat) (b : List UInt8) (e : Ending) (w' : World) : Prop :=
 ∃ bv, e = .returned .nilIface ∧ KRep B w' (K.wrote b0 f d bv p b) ∧ Kept K.foot w w'
theorem setData_files {T : Tr} {k : Nat} {d : Nd} (hd : d.dir = false) (bv : Value) (l : List UInt8) : ∀ n x, T.nd n = some x → x.dir = false → ∃ x', (T.setData k d bv l).nd n = some x' ∧ x'.dir = false := by
 intro n x hn hx
 by_cases h : n = k
 ·exact ⟨_, by simp only [Tr.setData, Tr.set, h, if_true]; rfl, by simp [hd]⟩
 ·exact ⟨x, by simp only [Tr.setData, Tr.set, Tr.tick, h, if_false]; exact hn, hx⟩
theorem kwrote_made {B : Nat} {w w' : World} {K : Ks} (hK : KRep B w K) {b0 : Nat} {f : Fl} (hf0 : K.fl b0 = some f) (hway : f.way = 1) {d : Nd} (hd : d.dir = false) {p : Nat} {b : List UInt8} {e : Ending}
  (h : FWPost B w K.T b0 f.fb 1 f.node d p b e w') : KWPost B w K b0 f d p b e w' := by
 obtain ⟨bv, rfl, hR, hc, hk, hft⟩ := h
 refine ⟨bv, rfl, ?_, hk.mono (fun x hx => ?_)⟩
 ·refine hK.wrote hf0 hR rfl hk hft (setData_files hd bv _) ?_
  rw [hway]
  exact hc
 ·rcases hx with hx | rfl
  ·exact .inr hx
  ·exact .inl (.inr (.inr (.inr (.inr (.inr (.inr (.inr (.inl ⟨f, hf0⟩))))))))
set_option maxRecDepth 100000 in
set_option maxHeartbeats 1000000 in
theorem kwrite_file {B : Nat} {w : World} {K : Ks} (hB : B ≤ w.heap.size) (hK : KRep B w K) (fd : Nat) (hfd : fd < 16) (b0 : Nat) (h : K.fds fd = some (.file b0)) (f : Fl) (hf0 : K.fl b0 = some f) (hway : f.way = 1) (p : Nat) (hp0 : f.pos = p)
  (hck0 : 0 ≤ K.T.clock) (hck : K.T.clock ≤ 1152921504606846976) (d : Nd) (hd : K.T.nd f.node = some d) (hdir : d.dir = false) (hdl : d.data.length ≤ 65536) (b : List UInt8) (hp : p + b.length ≤ 65536) (hbl : 0 < b.length)
  (bv : Value) (hb : Src w bv b) (hbf : ∀ x, bv.ownBlock = some x → ¬ K.foot x) :
  Calls Tryz.prog 28 #[.pointer (some ⟨K.kb, 0, none⟩), .int .i64 fd, bv] w fun e w' => KWPost B w K b0 f d p b e w' := by
 have HU : Hid (Calls Tryz.prog 53 #[.pointer (some ⟨K.kb, 0, none⟩), .int .i64 fd] w fun e w' => za9 w true e w') := by
  have h1 := za2 hK.kern fd
  rw [zbc hfd, h] at h1
  exact h1
 have hc : w.cell? ⟨K.kb, 1 + fd, none⟩ = some (.iface 123 (.pointer (some ⟨b0, 0, none⟩))) := by
  have h1 := hK.kern.fd fd hfd
  rw [h] at h1
  exact h1
 have HW : Hid (Calls Tryz.prog 178 #[.pointer (some ⟨b0, 0, none⟩), bv] w fun e w' => FWPost B w K.T b0 f.fb 1 f.node d p b e w') := by
  have h2 := hK.file b0 f hf0
  rw [hway, hp0] at h2
  exact fwrite_ok b0 f.fb p bv b w hB hK.tree hck0 hck f.node d hd hdir hdl hp hbl hb (fun x hx hf => hbf x hx (.inr hf)) h2.1
   (hK.apart _ (.inr (.inr (.inr (.inr (.inr (.inr (.inr (.inl ⟨f, hf0⟩))))))))) h2.2.1
 have HKR : Hid (KRep B w K) := hK
 have HF0 : Hid (K.fl b0 = some f) := hf0
 have HWAY : Hid (f.way = 1) := hway
 have HDIR : Hid (d.dir = false) := hdir
 have hfi : (fd : Int) < 16 := by omega
 clear hK h hf0 hway hp0 hck0 hck hd hdir hdl hp hbl hb hbf
 go_enter Tryz.func28, Tryz.ntmps28
 go_wp2_with fail
 refine HU.out.mono ?_
 rintro e w1 ⟨rfl, rfl⟩
 go_wp2_with fail
 refine HW.out.mono ?_
 intro e w2 hpost
 have HX := hid (kwrote_made HKR.out HF0.out HWAY.out HDIR.out hpost)
 obtain ⟨_, rfl, _⟩ := hpost
 go_wp2_with fail
 go_ret
 exact HX.out
end
end Go.Proofs.YteeeaeiafdgpkaaGreatDoor
