/-
 append over bytes: one law for a source that is nil and one that is not.
 (*Tree).put: its contract.
 WHAT A CHANGE OF SOME NODES LEAVES OF A TREE IN MEMORY.
 A store into a map of names, and a name taken away: the laws at the operations.
-/
import Derived.Test.YteeeaeiafdgpkaaGreatDoorTreeA
import Derived.Laws.AppendOwnNone
import Derived.Deep.DeepAppendWide
namespace Go.Proofs.YteeeaeiafdgpkaaGreatDoor
open Go Go.RowKit
section
def Src (w : World) (s : Value) (l : List UInt8) : Prop :=
 (s = .slice none 0 0 ∧ l = []) ∨ ∃ ad c, s = .slice (some ad) l.length c ∧ l.length ≤ c ∧ ∀ j (h : j < l.length), w.cell? (ad.add j) = some (.int .u8 l[j].toNat)
theorem Src.nil (w : World) : Src w (.slice none 0 0) [] := .inl ⟨rfl, rfl⟩
theorem Src.kept {w w' : World} {s : Value} {l : List UInt8} {F : Nat → Prop} (h : Src w s l) (k : Kept F w w') (hF : ∀ b, s.ownBlock = some b → ¬ F b) : Src w' s l := by
 rcases h with h | ⟨ad, c, rfl, hc, h⟩
 ·exact .inl h
 ·refine .inr ⟨ad, c, rfl, hc, fun j hj => ?_⟩
  have h1 := h j hj
  have hb : (ad.add j).block = ad.block := by unfold Addr.add; split <;> rfl
  rw [k.cell (p := ad.add j) (World.block_lt_of_cell? _ _ h1) (by rw [hb]; exact hF _ rfl)]
  exact h1
theorem Src.lt {w : World} {s : Value} {l : List UInt8} (h : Src w s l) (hl : 0 < l.length) : ∃ b, s.ownBlock = some b ∧ b < w.heap.size := by
 rcases h with ⟨_, rfl⟩ | ⟨ad, c, rfl, _, h⟩
 ·simp at hl
 ·have hb : (ad.add 0).block = ad.block := by unfold Addr.add; split <;> rfl
  exact ⟨_, rfl, hb ▸ World.block_lt_of_cell? _ _ (h 0 hl)⟩
theorem Src.of_owns {w : World} {base : Nat} {v : Value} {l : List UInt8} (h : w.ownsRow base 5 1 v l.length (u8s l)) : Src w v l := by
 rcases h.2 with ⟨rfl, h0⟩ | ⟨g, cap, cur, rfl, r1, r2, r3, _, _, r6⟩
 ·exact .inl ⟨rfl, List.eq_nil_of_length_eq_zero h0⟩
 ·refine .inr ⟨⟨g, 0, none⟩, cap, rfl, r3, fun j hj => ?_⟩
  exact h.cells (g := g) rfl j _ (by unfold u8s; simp [List.getElem?_eq_getElem hj])
theorem zak {w : World} {base : Nat} {e : TypeId} {size n : Nat} {v : Value} {xs : List Value} (h : w.ownsRow base e size v n xs) : ∃ a c, v = .slice a n c := by
 rcases h.2 with ⟨rfl, rfl⟩ | ⟨g, cap, cur, rfl, _⟩
 ·exact ⟨_, _, rfl⟩
 ·exact ⟨_, _, rfl⟩
theorem infoU8 : (Tryz.prog.info? 5).map (fun i => (i.zero, i.size, i.bytes)) = some (some (.int .u8 0), 1, 1) := by kernel_rfl
theorem zas {w : World} {ops : Array Oper} {rest : List Oper} {o : Oper} {a : Act} {Q : Exit → Act → World → Prop} (hgd : o.guard = none) (s x : Operand)
  (ho : o.op = .call { callee := .builtin .append, args := #[s, x], argTypes := #[28, 28] })
  (base : Nat) (v : Value) (n : Nat) (xs : List Value) (hs : a.eval s = v) (hown : w.ownsRow base 5 1 v n xs)
  (sv : Value) (l : List UInt8) (hx : a.eval x = sv) (hl : Src w sv l) (hn : n + l.length ≤ 180000000000000) (hbase : base ≤ w.heap.size)
  (h : ∀ v' w', w'.ownsRow base 5 1 v' (n + l.length) (xs ++ u8s l) → w.grownBy w' v.ownBlock → wpList Tryz.prog ops Q rest (a.put o.dst v') w') : wpList Tryz.prog ops Q (o :: rest) a w := by
 obtain ⟨i, hi, hz0, hz1, hz2⟩ := info_parts infoU8
 rcases hl with ⟨rfl, rfl⟩ | ⟨ad, c, rfl, _, hcell⟩
 ·refine wpList_append_own_none hgd s x _ ho base _ i 1 Tryz.underlying28 hi v n xs hs hown hx (h v w ?_ ?_)
  ·simpa [u8s] using hown
  ·exact ⟨rfl, rfl, rfl, Nat.le_refl _, fun _ _ _ => rfl⟩
 ·refine wpList_append_own_wide w hgd s x _ ho base _ i (.int .u8 0) 1 1 Tryz.underlying28 hi hz0 hz1 hz2 rfl (by decide) v n xs hs hown ad l.length c (u8s l) hx (by simp [u8s]) ?_ ?_ (by unfold maxLen; omega) (by omega) hbase (fun v' w' h1 h2 _ => h v' w' h1 h2)
  ·intro j u hu
   have hj : j < l.length := by
    have := (List.getElem?_eq_some_iff.1 hu).1
    simpa [u8s] using this
   have h1 := hcell j hj
   have : u = .int .u8 l[j].toNat := by
    unfold u8s at hu
    rw [List.getElem?_map, List.getElem?_eq_getElem hj] at hu
    simpa using hu.symm
   rw [this]
   exact h1
  ·intro u hu
   unfold u8s at hu
   obtain ⟨y, _, rfl⟩ := List.mem_map.1 hu
   rfl
theorem run_append_src {w : World} (base : Nat) (v : Value) (n : Nat) (xs : List Value) (hown : w.ownsRow base 5 1 v n xs)
  (sv : Value) (l : List UInt8) (hl : Src w sv l) (hn : n + l.length ≤ 180000000000000) (hbase : base ≤ w.heap.size) :
  ∃ v' w', (Builtin.append_ #[28, 28] 28 #[v, sv]).run Tryz.prog w = .ok v' w' ∧ w'.ownsRow base 5 1 v' (n + l.length) (xs ++ u8s l) ∧ w.grownBy w' v.ownBlock := by
 obtain ⟨i, hi, hz0, hz1, hz2⟩ := info_parts infoU8
 rcases hl with ⟨rfl, rfl⟩ | ⟨ad, c, rfl, _, hcell⟩
 ·have hrun := run_append_owned_none (P := Tryz.prog) (w := w) base 28 28 5 i 1 Tryz.underlying28 hi v n xs hown
  exact ⟨v, w, hrun, by simpa [u8s] using hown, ⟨rfl, rfl, rfl, Nat.le_refl _, fun _ _ _ => rfl⟩⟩
 ·have hcells : ∀ j u, (u8s l)[j]? = some u → w.cell? (ad.add j) = some u := by
   intro j u hu
   have hj : j < l.length := by
    have := (List.getElem?_eq_some_iff.1 hu).1
    simpa [u8s] using this
   have h1 := hcell j hj
   have : u = .int .u8 l[j].toNat := by
    unfold u8s at hu
    rw [List.getElem?_map, List.getElem?_eq_getElem hj] at hu
    simpa using hu.symm
   rw [this]
   exact h1
  have hone : ∀ u ∈ u8s l, u.oneCell' = true := by
   intro u hu
   unfold u8s at hu
   obtain ⟨y, _, rfl⟩ := List.mem_map.1 hu
   rfl
  obtain ⟨v', w', h1, h2, h3, _⟩ := run_append_own_wide (P := Tryz.prog) w base 28 28 5 i (.int .u8 0) 1 1 Tryz.underlying28 hi hz0 hz1 hz2 rfl (by decide) v n xs hown ad l.length c (u8s l) (by simp [u8s]) hcells hone (by unfold maxLen; omega) (by omega) hbase
  exact ⟨v', w', h1, h2, h3⟩
noncomputable def apRun (w : World) (v sv : Value) : Result Value := (Builtin.append_ #[28, 28] 28 #[v, sv]).run Tryz.prog w
noncomputable def apA (w : World) (v sv : Value) : Option Addr := match apRun w v sv with | .ok (.slice a _ _) _ => a | _ => none
noncomputable def apN (w : World) (v sv : Value) : Nat := match apRun w v sv with | .ok (.slice _ n _) _ => n | _ => 0
noncomputable def apC (w : World) (v sv : Value) : Nat := match apRun w v sv with | .ok (.slice _ _ c) _ => c | _ => 0
noncomputable def apW (w : World) (v sv : Value) : World := match apRun w v sv with | .ok _ w' => w' | _ => w
def ApOk (w : World) (v sv : Value) : Prop := ∃ a n c w', apRun w v sv = .ok (.slice a n c) w'
theorem apOk_run {w : World} {v sv : Value} (h : ApOk w v sv) : apRun w v sv = .ok (.slice (apA w v sv) (apN w v sv) (apC w v sv)) (apW w v sv) := by
 obtain ⟨a, n, c, w', h⟩ := h
 unfold apA apN apC apW
 rw [h]
theorem ap_rule {w : World} {a : Act} {d : Option Tmp} {v0 : Value} {t : Nat} {pos : String} {af : Array Edge} {g : Option (Nat × Bool)} (h : ApOk w v0 (a.eval (.tmp t))) :
  (execOp a.eval ⟨d, .call { callee := .builtin .append, args := #[.const v0, .tmp t], argTypes := #[28, 28] }, 28, pos, af, g⟩).run Tryz.prog w =
   .ok (.value (.slice (apA w v0 (a.eval (.tmp t))) (apN w v0 (a.eval (.tmp t))) (apC w v0 (a.eval (.tmp t))))) (apW w v0 (a.eval (.tmp t))) := by
 have hr := apOk_run h
 unfold apRun at hr
 have he : a.eval (.const v0) = v0 := rfl
 unfold execOp
 simp only [resolve, invoke, builtin, Sem.run_bind, Sem.run_pure, Result.andThen_ok, List.map_toArray, List.map_cons, List.map_nil, he, hr]
theorem zex {w : World} (base : Nat) (v : Value) (n : Nat) (xs : List Value) (hown : w.ownsRow base 5 1 v n xs) (sv : Value) (l : List UInt8) (hl : Src w sv l) (hn : n + l.length ≤ 180000000000000) (hbase : base ≤ w.heap.size) :
  ApOk w v sv ∧ apN w v sv = n + l.length ∧ (apW w v sv).ownsRow base 5 1 (.slice (apA w v sv) (apN w v sv) (apC w v sv)) (n + l.length) (xs ++ u8s l) ∧ w.grownBy (apW w v sv) v.ownBlock := by
 obtain ⟨v', w', h1, h2, h3⟩ := run_append_src base v n xs hown sv l hl hn hbase
 obtain ⟨a, c, rfl⟩ := zak h2
 have hr : apRun w v sv = .ok (.slice a (n + l.length) c) w' := h1
 have e1 : apA w v sv = a := by unfold apA; rw [hr]
 have e2 : apN w v sv = n + l.length := by unfold apN; rw [hr]
 have e3 : apC w v sv = c := by unfold apC; rw [hr]
 have e4 : apW w v sv = w' := by unfold apW; rw [hr]
 rw [e1, e2, e3, e4]
 exact ⟨⟨a, _, c, w', hr⟩, rfl, h2, h3⟩
end
section
def Tr.set (T : Tr) (k : Nat) (d : Nd) : Tr := { T with nd := fun i => if i = k then some d else T.nd i }
def Tr.tick (T : Tr) (n : Int) : Tr := { T with clock := T.clock + 1, count := T.count + n }
def zc5 (E : Nat → Addr) (w : World) (c : Nat) (e : Ending) (w' : World) : Prop :=
 ∃ a, e = .returned (.tuple #[.pointer none, zcb a]) ∧ zbu E w.heap.size w' a c ∧ Below w.heap.size w w'
set_option maxRecDepth 100000 in
set_option maxHeartbeats 1000000 in
theorem put_err {E : Nat → Addr} {B : Nat} {T : Tr} (p : ByteArray) (bv : Value) (add : Bool) (w : World) (hE : Ctx E B w) (hR : Rep B w T) (hsz : p.size ≤ 9223372036854775807) (c : Nat) (hf : T.find p = .error c) :
  Calls Tryz.prog 79 #[.pointer (some ⟨T.tb, 0, none⟩), .string p, bv, .bool add] w fun e w' => zc5 E w c e w' := by
 have HF := zbz p w hE hR hsz
 rw [hf] at HF
 have HC : Hid (Calls Tryz.prog 55 #[.pointer (some ⟨T.tb, 0, none⟩), .string p] w fun e w' => zbn E w (.error c) e w') := HF
 clear HF hE hR hf
 go_enter Tryz.func79, Tryz.ntmps79
 go_wp2_with fail
 refine HC.out.mono ?_
 rintro e w1 ⟨hb, a, rfl, hfl⟩
 have HB : Hid (Below w.heap.size w w1) := hb
 have HFL : Hid (zbu E w.heap.size w1 a c) := hfl
 clear hb hfl
 simp only [zct, spot0, za0]
 go_wp2_with fail
 go_ret2
 exact ⟨a, rfl, HFL.out.below (zad w1 _), zaf HB.out (zad w1 _)⟩
set_option maxRecDepth 100000 in
set_option maxHeartbeats 1000000 in
theorem put_dir {E : Nat → Addr} {B : Nat} {T : Tr} (p : ByteArray) (bv : Value) (add : Bool) (w : World) (hE : Ctx E B w) (hR : Rep B w T) (hsz : p.size ≤ 9223372036854775807) (s : Spot) (hf : T.find p = .ok s)
  (k : Nat) (d : Nd) (hk : s.n = some k) (hd : T.nd k = some d) (hdir : d.dir = true) :
  Calls Tryz.prog 79 #[.pointer (some ⟨T.tb, 0, none⟩), .string p, bv, .bool add] w fun e w' => zc5 E w 17 e w' := by
 have HF := zbz p w hE hR hsz
 rw [hf] at HF
 have HC : Hid (Calls Tryz.prog 55 #[.pointer (some ⟨T.tb, 0, none⟩), .string p] w fun e w' => zbn E w (.ok s) e w') := HF
 have HE : Hid (Ctx E B w) := hE
 have HR : Hid (Rep B w T) := hR
 have HK : Hid (s.n = some k) := hk
 have HD : Hid (T.nd k = some d) := hd
 have HDIR : Hid (d.dir = true) := hdir
 have HKL : Hid (k < w.heap.size) := hR.lt (.inr (.inl ⟨d, hd⟩))
 clear HF hE hR hf hk hd hdir
 go_enter Tryz.func79, Tryz.ntmps79
 go_wp2_with fail
 refine HC.out.mono ?_
 rintro e w1 ⟨hb, rfl⟩
 have HB : Hid (Below w.heap.size w w1) := hb
 have HRP : Hid (Rep B w1 T) := HR.out.below HB.out
 clear hb
 obtain ⟨inn, nm, nn⟩ := s
 obtain rfl : nn = some k := HK.out
 simp only [zct, zau]
 have hc0 : w1.cell? ⟨k, 0, none⟩ = some (.bool true) := by rw [← HDIR.out]; exact zaa (HRP.out.node k d HD.out).cells rfl
 have hkl : k < w1.heap.size := HRP.out.lt (.inr (.inl ⟨d, HD.out⟩))
 unfold ptrV
 generalize inn.map (fun b => (⟨b, 0, none⟩ : Addr)) = ia
 go_wp2_with fail
 refine (zbl _ (HE.out.env.below (zaf HB.out (zad w1 _))) 17 (by unfold Used; omega)).mono ?_
 rintro e w2 ⟨a, rfl, hfail, hb2⟩
 have HF : Hid (zc5 E w 17 (.returned (.tuple #[.pointer none, zcb a])) w2) :=
  ⟨a, rfl, hfail.mono (zaf HB.out (zad w1 _)).size, zaf (zaf HB.out (zad w1 _)) hb2⟩
 clear hfail hb2
 go_wp2_with fail
 go_ret2
 exact HF.out
set_option maxRecDepth 100000 in
set_option maxHeartbeats 1000000 in
theorem put_full {E : Nat → Addr} {B : Nat} {T : Tr} (p : ByteArray) (bv : Value) (add : Bool) (w : World) (hE : Ctx E B w) (hR : Rep B w T) (hsz : p.size ≤ 9223372036854775807) (s : Spot) (hf : T.find p = .ok s)
  (hk : s.n = none) (hfull : 200 ≤ T.count) :
  Calls Tryz.prog 79 #[.pointer (some ⟨T.tb, 0, none⟩), .string p, bv, .bool add] w fun e w' => zc5 E w 19 e w' := by
 have HF := zbz p w hE hR hsz
 rw [hf] at HF
 have HC : Hid (Calls Tryz.prog 55 #[.pointer (some ⟨T.tb, 0, none⟩), .string p] w fun e w' => zbn E w (.ok s) e w') := HF
 have HE : Hid (Ctx E B w) := hE
 have HR : Hid (Rep B w T) := hR
 have HK : Hid (s.n = none) := hk
 have HTL : Hid (T.tb < w.heap.size) := hR.lt (.inl rfl)
 clear HF hE hR hf hk
 go_enter Tryz.func79, Tryz.ntmps79
 go_wp2_with fail
 refine HC.out.mono ?_
 rintro e w1 ⟨hb, rfl⟩
 have HB : Hid (Below w.heap.size w w1) := hb
 have HRP : Hid (Rep B w1 T) := HR.out.below HB.out
 clear hb
 obtain ⟨inn, nm, nn⟩ := s
 obtain rfl : nn = none := HK.out
 simp only [zct, za0]
 have htl : T.tb < w1.heap.size := HRP.out.lt (.inl rfl)
 have hc2 : w1.cell? ⟨T.tb, 2, none⟩ = some (.int .i64 T.count) := zaa HRP.out.tree rfl
 unfold ptrV
 generalize inn.map (fun b => (⟨b, 0, none⟩ : Addr)) = ia
 generalize T.count = cnt at *
 go_wp2_with fail
 refine (zbl _ (HE.out.env.below (zaf HB.out (zad w1 _))) 19 (by unfold Used; omega)).mono ?_
 rintro e w2 ⟨a, rfl, hfail, hb2⟩
 have HF : Hid (zc5 E w 19 (.returned (.tuple #[.pointer none, zcb a])) w2) :=
  ⟨a, rfl, hfail.mono (zaf HB.out (zad w1 _)).size, zaf (zaf HB.out (zad w1 _)) hb2⟩
 clear hfail hb2
 go_wp2_with fail
 go_ret2
 exact HF.out
set_option maxRecDepth 100000 in
set_option maxHeartbeats 1000000 in
theorem put_great {E : Nat → Addr} {B : Nat} {T : Tr} (p : ByteArray) (ba : Option Addr) (bl bc : Nat) (add : Bool) (w : World) (hE : Ctx E B w) (hR : Rep B w T) (hsz : p.size ≤ 9223372036854775807) (s : Spot) (hf : T.find p = .ok s)
  (hk : s.n = none) (hfull : T.count < 200) (hbl : 65536 < bl) :
  Calls Tryz.prog 79 #[.pointer (some ⟨T.tb, 0, none⟩), .string p, .slice ba bl bc, .bool add] w fun e w' => zc5 E w 19 e w' := by
 have HF := zbz p w hE hR hsz
 rw [hf] at HF
 have HC : Hid (Calls Tryz.prog 55 #[.pointer (some ⟨T.tb, 0, none⟩), .string p] w fun e w' => zbn E w (.ok s) e w') := HF
 have HE : Hid (Ctx E B w) := hE
 have HR : Hid (Rep B w T) := hR
 have HK : Hid (s.n = none) := hk
 have HTL : Hid (T.tb < w.heap.size) := hR.lt (.inl rfl)
 clear HF hE hR hf hk
 go_enter Tryz.func79, Tryz.ntmps79
 go_wp2_with fail
 refine HC.out.mono ?_
 rintro e w1 ⟨hb, rfl⟩
 have HB : Hid (Below w.heap.size w w1) := hb
 have HRP : Hid (Rep B w1 T) := HR.out.below HB.out
 clear hb
 obtain ⟨inn, nm, nn⟩ := s
 obtain rfl : nn = none := HK.out
 simp only [zct, za0]
 have htl : T.tb < w1.heap.size := HRP.out.lt (.inl rfl)
 have hc2 : w1.cell? ⟨T.tb, 2, none⟩ = some (.int .i64 T.count) := zaa HRP.out.tree rfl
 unfold ptrV
 generalize inn.map (fun b => (⟨b, 0, none⟩ : Addr)) = ia
 generalize T.count = cnt at *
 go_wp2_with fail
 refine (zbl _ (HE.out.env.below (zaf HB.out (zad w1 _))) 19 (by unfold Used; omega)).mono ?_
 rintro e w2 ⟨a, rfl, hfail, hb2⟩
 have HF : Hid (zc5 E w 19 (.returned (.tuple #[.pointer none, zcb a])) w2) :=
  ⟨a, rfl, hfail.mono (zaf HB.out (zad w1 _)).size, zaf (zaf HB.out (zad w1 _)) hb2⟩
 clear hfail hb2
 go_wp2_with fail
 go_ret2
 exact HF.out
set_option maxRecDepth 100000 in
set_option maxHeartbeats 1000000 in
theorem put_great2 {E : Nat → Addr} {B : Nat} {T : Tr} (p : ByteArray) (ba : Option Addr) (bl bc : Nat) (add : Bool) (w : World) (hE : Ctx E B w) (hR : Rep B w T) (hsz : p.size ≤ 9223372036854775807) (s : Spot) (hf : T.find p = .ok s)
  (k : Nat) (d : Nd) (hk : s.n = some k) (hd : T.nd k = some d) (hdir : d.dir = false) (hdl : d.data.length ≤ 65536) (hbl : 65536 < (if add then d.data.length else 0) + bl) :
  Calls Tryz.prog 79 #[.pointer (some ⟨T.tb, 0, none⟩), .string p, .slice ba bl bc, .bool add] w fun e w' => zc5 E w 19 e w' := by
 have HF := zbz p w hE hR hsz
 rw [hf] at HF
 have HC : Hid (Calls Tryz.prog 55 #[.pointer (some ⟨T.tb, 0, none⟩), .string p] w fun e w' => zbn E w (.ok s) e w') := HF
 have HE : Hid (Ctx E B w) := hE
 have HR : Hid (Rep B w T) := hR
 have HK : Hid (s.n = some k) := hk
 have HD : Hid (T.nd k = some d) := hd
 have HDIR : Hid (d.dir = false) := hdir
 clear HF hE hR hf hk hd hdir
 go_enter Tryz.func79, Tryz.ntmps79
 go_wp2_with fail
 refine HC.out.mono ?_
 rintro e w1 ⟨hb, rfl⟩
 have HB : Hid (Below w.heap.size w w1) := hb
 have HRP : Hid (Rep B w1 T) := HR.out.below HB.out
 clear hb
 obtain ⟨inn, nm, nn⟩ := s
 obtain rfl : nn = some k := HK.out
 simp only [zct, zau]
 have hc0 : w1.cell? ⟨k, 0, none⟩ = some (.bool false) := by rw [← HDIR.out]; exact zaa (HRP.out.node k d HD.out).cells rfl
 have hc1 : w1.cell? ⟨k, 1, none⟩ = some d.bv := zaa (HRP.out.node k d HD.out).cells rfl
 have hbv : ∃ a c, d.bv = .slice a d.data.length c := by
  rcases (HRP.out.node k d HD.out).row.2 with ⟨h1, h2⟩ | ⟨g, cap, cur, h1, _⟩
  ·exact ⟨none, 0, by rw [h1, h2]⟩
  ·exact ⟨_, _, h1⟩
 obtain ⟨av, cv, hbv⟩ := hbv
 rw [hbv] at hc1
 clear hbv
 have hkl : k < w1.heap.size := HRP.out.lt (.inr (.inl ⟨d, HD.out⟩))
 unfold ptrV
 generalize inn.map (fun b => (⟨b, 0, none⟩ : Addr)) = ia
 generalize d.data.length = dl at *
 cases add with
 | false =>
  simp only [Bool.false_eq_true, if_false] at hbl
  go_wp2_with fail
  refine (zbl _ (HE.out.env.below (zaf HB.out (zad w1 _))) 19 (by unfold Used; omega)).mono ?_
  rintro e w2 ⟨a, rfl, hfail, hb2⟩
  have HF : Hid (zc5 E w 19 (.returned (.tuple #[.pointer none, zcb a])) w2) :=
   ⟨a, rfl, hfail.mono (zaf HB.out (zad w1 _)).size, zaf (zaf HB.out (zad w1 _)) hb2⟩
  clear hfail hb2
  go_wp2_with fail
  go_ret2
  exact HF.out
 | true =>
  simp only [if_true] at hbl
  go_wp2_with fail
  refine (zbl _ (HE.out.env.below (zaf HB.out (zad w1 _))) 19 (by unfold Used; omega)).mono ?_
  rintro e w2 ⟨a, rfl, hfail, hb2⟩
  have HF : Hid (zc5 E w 19 (.returned (.tuple #[.pointer none, zcb a])) w2) :=
   ⟨a, rfl, hfail.mono (zaf HB.out (zad w1 _)).size, zaf (zaf HB.out (zad w1 _)) hb2⟩
  clear hfail hb2
  go_wp2_with fail
  go_ret2
  exact HF.out
end
section
def zez (T : Tr) (i : Nat) (di : Nd) (b : Nat) : Prop := b = T.tb ∨ b = i ∨ (di.dir = true ∧ di.mb = b) ∨ di.bv.ownBlock = some b
theorem NodeAt.row_block {B n : Nat} {w : World} {d : Nd} (h : NodeAt B w n d) {b : Nat} (hb : d.bv.ownBlock = some b) : ∃ c, w.heap[b]? = some (.cells c 5 (0, 0)) := by
 rcases h.row.2 with ⟨h1, _⟩ | ⟨g, cap, cur, h1, _, h2, _⟩
 ·rw [h1] at hb; cases hb
 ·rw [h1] at hb
  simp only [Value.ownBlock, Option.some.injEq] at hb
  subst hb
  exact ⟨cur, h2⟩
theorem zez.foot {T : Tr} {i : Nat} {di : Nd} (hi : T.nd i = some di) {b : Nat} (h : zez T i di b) : T.foot b := by
 rcases h with rfl | rfl | ⟨h1, rfl⟩ | h
 ·exact .inl rfl
 ·exact .inr (.inl ⟨di, hi⟩)
 ·exact .inr (.inr ⟨i, di, hi, .inl ⟨h1, rfl⟩⟩)
 ·exact .inr (.inr ⟨i, di, hi, .inr h⟩)
theorem Rep.apart {B : Nat} {w : World} {T : Tr} (hR : Rep B w T) {n i : Nat} {d di : Nd} (hn : T.nd n = some d) (hi : T.nd i = some di) (hne : n ≠ i) :
  ¬ zez T i di n ∧ (d.dir = true → ¬ zez T i di d.mb) ∧ (∀ r, d.bv.ownBlock = some r → ¬ zez T i di r) := by
 have N := hR.node n d hn
 have I := hR.node i di hi
 refine ⟨?_, fun hd => ?_, fun r hr => ?_⟩
 ·rintro (h | h | ⟨h1, h⟩ | h)
  ·exact zac N.cells hR.tree (by decide) h
  ·exact hne h
  ·obtain ⟨es, c, h2, _⟩ := I.map h1
   exact zam N.cells h2 h.symm
  ·obtain ⟨c, hc⟩ := I.row_block h
   exact zac N.cells hc (by decide) rfl
 ·obtain ⟨es, c, h0, _⟩ := N.map hd
  rintro (h | h | ⟨h1, h⟩ | h)
  ·exact zam hR.tree h0 h.symm
  ·exact zam I.cells h0 h.symm
  ·exact hne (hR.maps n d i di hn hi hd h1 h.symm)
  ·obtain ⟨c, hc⟩ := I.row_block h
   exact zam hc h0 rfl
 ·obtain ⟨c, hc⟩ := N.row_block hr
  rintro (h | h | ⟨h1, h⟩ | h)
  ·exact zac hc hR.tree (by decide) h
  ·exact zac hc I.cells (by decide) h
  ·obtain ⟨es, c', h2, _⟩ := I.map h1
   exact zam hc h2 h.symm
  ·exact hne (hR.rows n d i di r hn hi hr h)
theorem Rep.others {B : Nat} {w w' : World} {T : Tr} (hR : Rep B w T) {F : Nat → Prop} (k : Kept F w w') (S : List Nat)
  (hF : ∀ b, F b → ∃ i, i ∈ S ∧ ∃ di, T.nd i = some di ∧ zez T i di b) {n : Nat} {d : Nd} (hn : T.nd n = some d) (hS : n ∉ S) : NodeAt B w' n d := by
 refine (hR.node n d hn).kept k (fun hf => ?_) (fun hd hf => ?_) (fun r hr hf => ?_)
 ·obtain ⟨i, hi, di, hdi, ht⟩ := hF _ hf
  exact (hR.apart hn hdi (fun e => hS (e ▸ hi))).1 ht
 ·obtain ⟨i, hi, di, hdi, ht⟩ := hF _ hf
  exact (hR.apart hn hdi (fun e => hS (e ▸ hi))).2.1 hd ht
 ·obtain ⟨i, hi, di, hdi, ht⟩ := hF _ hf
  exact (hR.apart hn hdi (fun e => hS (e ▸ hi))).2.2 r hr ht
theorem Rep.node_lt {B : Nat} {w : World} {T : Tr} (hR : Rep B w T) {n : Nat} {d : Nd} (h : T.nd n = some d) : n < w.heap.size := hR.lt (.inr (.inl ⟨d, h⟩))
def Tr.newFile (T : Tr) (i : Nat) (di : Nd) (nm : ByteArray) (k : Nat) (bv : Value) (b : List UInt8) : Tr :=
 ((T.tick 1).set i { di with names := di.names ++ [(nm, k)], tick := T.clock + 1 }).set k { dir := false, bv := bv, data := b, names := [], mb := 0, links := 1, tick := T.clock + 1 }
theorem zdw (T : Tr) (i : Nat) (di : Nd) (nm : ByteArray) (k : Nat) (bv : Value) (b : List UInt8) :
  (T.newFile i di nm k bv b).nd k = some { dir := false, bv := bv, data := b, names := [], mb := 0, links := 1, tick := T.clock + 1 } := by simp [Tr.newFile, Tr.set]
theorem zfn (T : Tr) {i : Nat} (di : Nd) (nm : ByteArray) {k : Nat} (bv : Value) (b : List UInt8) (h : i ≠ k) :
  (T.newFile i di nm k bv b).nd i = some { di with names := di.names ++ [(nm, k)], tick := T.clock + 1 } := by simp [Tr.newFile, Tr.set, h]
theorem zcp (T : Tr) {i : Nat} (di : Nd) (nm : ByteArray) {k : Nat} (bv : Value) (b : List UInt8) {n : Nat} (h : n ≠ i) (h' : n ≠ k) :
  (T.newFile i di nm k bv b).nd n = T.nd n := by simp [Tr.newFile, Tr.set, Tr.tick, h, h']
theorem za8 {T : Tr} {i : Nat} {di : Nd} {nm : ByteArray} {k : Nat} {bv : Value} {b : List UInt8} (hik : i ≠ k) {n : Nat} {d : Nd} (h : (T.newFile i di nm k bv b).nd n = some d) :
  (n = k ∧ d = { dir := false, bv := bv, data := b, names := [], mb := 0, links := 1, tick := T.clock + 1 }) ∨
  (n = i ∧ d = { di with names := di.names ++ [(nm, k)], tick := T.clock + 1 }) ∨ (n ≠ i ∧ n ≠ k ∧ T.nd n = some d) := by
 by_cases h1 : n = k
 ·subst h1
  rw [zdw] at h
  exact .inl ⟨rfl, (Option.some.inj h).symm⟩
 ·by_cases h2 : n = i
  ·subst h2
   rw [zfn T di nm bv b hik] at h
   exact .inr (.inl ⟨rfl, (Option.some.inj h).symm⟩)
  ·rw [zcp T di nm bv b h2 h1] at h
   exact .inr (.inr ⟨h2, h1, h⟩)
theorem newFile_rep {B : Nat} {w w' : World} {T : Tr} (hR : Rep B w T) (hB : B ≤ w.heap.size) {i : Nat} {di : Nd} (hdi : T.nd i = some di) (hdir : di.dir = true) {nm : ByteArray} {k : Nat} (hk : w.heap.size ≤ k) {bv : Value} {b : List UInt8}
  (hK : Kept (fun x => x = T.tb ∨ x = i ∨ x = di.mb) w w')
  (hT : w'.heap[T.tb]? = some (.cells #[ptrV (some T.root), .int .i64 (T.clock + 1), .int .i64 (T.count + 1)] 115 (0, 0)))
  (hI : w'.heap[i]? = some (.cells #[.bool di.dir, di.bv, mapV di, .int .i64 di.links, .int .i64 (T.clock + 1)] 107 (0, 0)))
  (hM : zcl w' di.mb (di.names ++ [(nm, k)]))
  (hN : w'.heap[k]? = some (.cells #[.bool false, bv, .map none, .int .i64 1, .int .i64 (T.clock + 1)] 107 (0, 0)))
  (hW : w'.ownsRow w.heap.size 5 1 bv b.length (u8s b)) :
  Rep B w' (T.newFile i di nm k bv b) ∧ (∀ x, (T.newFile i di nm k bv b).foot x → T.foot x ∨ w.heap.size ≤ x) := by
 have hil := hR.node_lt hdi
 have hik : i ≠ k := by omega
 have hF : ∀ x, (x = T.tb ∨ x = i ∨ x = di.mb) → ∃ j, j ∈ [i] ∧ ∃ dj, T.nd j = some dj ∧ zez T j dj x := by
  rintro x (rfl | rfl | rfl)
  ·exact ⟨i, by simp, di, hdi, .inl rfl⟩
  ·exact ⟨x, by simp, di, hdi, .inr (.inl rfl)⟩
  ·exact ⟨i, by simp, di, hdi, .inr (.inr (.inl ⟨hdir, rfl⟩))⟩
 have hfoot : ∀ x, (T.newFile i di nm k bv b).foot x → T.foot x ∨ w.heap.size ≤ x := by
  rintro x (rfl | ⟨d, hd⟩ | ⟨n, d, hn, h⟩)
  ·exact .inl (.inl rfl)
  ·rcases za8 hik hd with ⟨rfl, _⟩ | ⟨rfl, _⟩ | ⟨_, _, h3⟩
   ·exact .inr hk
   ·exact .inl (.inr (.inl ⟨di, hdi⟩))
   ·exact .inl (.inr (.inl ⟨d, h3⟩))
  ·rcases za8 hik hn with ⟨rfl, rfl⟩ | ⟨rfl, rfl⟩ | ⟨_, _, h3⟩
   ·rcases h with ⟨h1, _⟩ | h1
    ·cases h1
    ·exact .inr (hW.lt x h1).1
   ·exact .inl (.inr (.inr ⟨n, di, hdi, h⟩))
   ·exact .inl (.inr (.inr ⟨n, d, h3, h⟩))
 refine ⟨⟨fun x hx => ?_, hT, fun n d hn => ?_, fun n d n' d' hn hn' hd hd' he => ?_, fun n d n' d' r hn hn' hr hr' => ?_, ?_, fun n d s q hn hq => ?_⟩, hfoot⟩
 ·rcases hfoot x hx with h | h
  ·exact hR.low x h
  ·omega
 ·rcases za8 hik hn with ⟨rfl, rfl⟩ | ⟨rfl, rfl⟩ | ⟨h1, _, h3⟩
  ·exact ⟨hN, ⟨hW.1, hW.2.imp id (fun ⟨g, cap, cur, q1, q2, q3⟩ => ⟨g, cap, cur, q1, by omega, q3⟩)⟩, fun h => (by cases h), fun _ => rfl⟩
  ·refine ⟨hI, ?_, fun _ => hM, fun h => ?_⟩
   ·refine zai (hR.node n di hdi).row hK ?_
    intro r hr
    obtain ⟨c, hc⟩ := (hR.node n di hdi).row_block hr
    obtain ⟨es, ck, hes, _⟩ := (hR.node n di hdi).map hdir
    rintro (h | h | h)
    ·exact zac hc hR.tree (by decide) h
    ·exact zac hc (hR.node n di hdi).cells (by decide) h
    ·exact zam hc hes h
   ·have h' : di.dir = false := h
    rw [hdir] at h'
    cases h'
  ·exact hR.others hK [i] hF h3 (by simpa using h1)
 ·rcases za8 hik hn with ⟨rfl, rfl⟩ | ⟨rfl, rfl⟩ | ⟨_, _, h3⟩
  ·cases hd
  ·rcases za8 hik hn' with ⟨rfl, rfl⟩ | ⟨rfl, rfl⟩ | ⟨_, _, h3'⟩
   ·cases hd'
   ·rfl
   ·exact hR.maps n di n' d' hdi h3' hdir hd' he
  ·rcases za8 hik hn' with ⟨rfl, rfl⟩ | ⟨rfl, rfl⟩ | ⟨_, _, h3'⟩
   ·cases hd'
   ·exact hR.maps n d n' di h3 hdi hd hdir he
   ·exact hR.maps n d n' d' h3 h3' hd hd' he
 ·have old : ∀ {m : Nat} {e : Nd}, T.nd m = some e → e.bv.ownBlock = some r → r < w.heap.size := fun {m e} hm hr => hR.lt (.inr (.inr ⟨m, e, hm, .inr hr⟩))
  rcases za8 hik hn with ⟨rfl, rfl⟩ | ⟨rfl, rfl⟩ | ⟨_, _, h3⟩
  ·have h1 := (hW.lt r hr).1
   rcases za8 hik hn' with ⟨rfl, rfl⟩ | ⟨rfl, rfl⟩ | ⟨_, _, h3'⟩
   ·rfl
   ·have := old hdi hr'; omega
   ·have := old h3' hr'; omega
  ·rcases za8 hik hn' with ⟨rfl, rfl⟩ | ⟨rfl, rfl⟩ | ⟨_, _, h3'⟩
   ·have h1 := (hW.lt r hr').1
    have := old hdi hr; omega
   ·rfl
   ·exact hR.rows n di n' d' r hdi h3' hr hr'
  ·rcases za8 hik hn' with ⟨rfl, rfl⟩ | ⟨rfl, rfl⟩ | ⟨_, _, h3'⟩
   ·have h1 := (hW.lt r hr').1
    have := old h3 hr; omega
   ·exact hR.rows n d n' di r h3 hdi hr hr'
   ·exact hR.rows n d n' d' r h3 h3' hr hr'
 ·obtain ⟨d, hd, hdd⟩ := hR.root
  have hne : T.root ≠ k := by have := hR.node_lt hd; omega
  by_cases h : T.root = i
  ·refine ⟨{ di with names := di.names ++ [(nm, k)], tick := T.clock + 1 }, ?_, hdir⟩
   show (T.newFile i di nm k bv b).nd T.root = _
   rw [h]
   exact zfn T di nm bv b hik
  ·exact ⟨d, (zcp T di nm bv b h hne).trans hd, hdd⟩
 ·have look' : ∀ q, (∃ d', T.nd q = some d') → ∃ d', (T.newFile i di nm k bv b).nd q = some d' := by
   rintro q ⟨d', hd'⟩
   by_cases h1 : q = k
   ·exact ⟨_, (congrArg _ h1).trans (zdw T i di nm k bv b)⟩
   ·by_cases h2 : q = i
    ·exact ⟨_, (congrArg _ h2).trans (zfn T di nm bv b hik)⟩
    ·exact ⟨d', (zcp T di nm bv b h2 h1).trans hd'⟩
  rcases za8 hik hn with ⟨rfl, rfl⟩ | ⟨rfl, rfl⟩ | ⟨_, _, h3⟩
  ·cases hq
  ·rcases List.mem_append.1 hq with h | h
   ·exact look' q (hR.kids n di s q hdi h)
   ·simp only [List.mem_singleton, Prod.mk.injEq] at h
    obtain ⟨_, rfl⟩ := h
    exact ⟨_, zdw T n di nm q bv b⟩
  ·exact look' q (hR.kids n d s q h3 hq)
def Tr.setData (T : Tr) (k : Nat) (d : Nd) (bv : Value) (b : List UInt8) : Tr := (T.tick 0).set k { d with bv := bv, data := b, tick := T.clock + 1 }
theorem set_k (T : Tr) (k : Nat) (d : Nd) : (T.set k d).nd k = some d := by simp [Tr.set]
theorem zdv (T : Tr) {k n : Nat} (d : Nd) (h : n ≠ k) : (T.set k d).nd n = T.nd n := by simp [Tr.set, h]
theorem za7 {T : Tr} {k n : Nat} {d e : Nd} (h : (T.set k d).nd n = some e) : (n = k ∧ e = d) ∨ (n ≠ k ∧ T.nd n = some e) := by
 by_cases h1 : n = k
 ·subst h1; rw [set_k] at h; exact .inl ⟨rfl, (Option.some.inj h).symm⟩
 ·rw [zdv _ _ h1] at h; exact .inr ⟨h1, h⟩
theorem zd6 {B : Nat} {w w' : World} {T : Tr} (hR : Rep B w T) {k : Nat} {d : Nd} (hd : T.nd k = some d) (hdir : d.dir = false) {bv : Value} {b : List UInt8}
  (hK : Kept (zez T k d) w w')
  (hT : w'.heap[T.tb]? = some (.cells #[ptrV (some T.root), .int .i64 (T.clock + 1), .int .i64 T.count] 115 (0, 0)))
  (hN : w'.heap[k]? = some (.cells #[.bool d.dir, bv, mapV d, .int .i64 d.links, .int .i64 (T.clock + 1)] 107 (0, 0)))
  (hW : w'.ownsRow B 5 1 bv b.length (u8s b)) (hnew : ∀ r, bv.ownBlock = some r → w.heap.size ≤ r ∨ d.bv.ownBlock = some r) :
  Rep B w' (T.setData k d bv b) ∧ (∀ x, (T.setData k d bv b).foot x → T.foot x ∨ w.heap.size ≤ x) := by
 have hF : ∀ x, zez T k d x → ∃ j, j ∈ [k] ∧ ∃ dj, T.nd j = some dj ∧ zez T j dj x := fun x hx => ⟨k, by simp, d, hd, hx⟩
 have hfoot : ∀ x, (T.setData k d bv b).foot x → T.foot x ∨ w.heap.size ≤ x := by
  rintro x (rfl | ⟨e, he⟩ | ⟨n, e, hn, h⟩)
  ·exact .inl (.inl rfl)
  ·rcases za7 he with ⟨rfl, _⟩ | ⟨_, h3⟩
   ·exact .inl (.inr (.inl ⟨d, hd⟩))
   ·exact .inl (.inr (.inl ⟨e, h3⟩))
  ·rcases za7 hn with ⟨rfl, rfl⟩ | ⟨_, h3⟩
   ·rcases h with ⟨h1, rfl⟩ | h1
    ·exact .inl (.inr (.inr ⟨n, d, hd, .inl ⟨h1, rfl⟩⟩))
    ·rcases hnew x h1 with h2 | h2
     ·exact .inr h2
     ·exact .inl (.inr (.inr ⟨n, d, hd, .inr h2⟩))
   ·exact .inl (.inr (.inr ⟨n, e, h3, h⟩))
 refine ⟨⟨fun x hx => ?_, ?_, fun n e hn => ?_, fun n e n' e' hn hn' h h' he => ?_, fun n e n' e' r hn hn' hr hr' => ?_, ?_, fun n e s q hn hq => ?_⟩, hfoot⟩
 ·rcases hx with rfl | ⟨e, he⟩ | ⟨n, e, hn, h⟩
  ·exact hR.low _ (.inl rfl)
  ·rcases za7 he with ⟨rfl, _⟩ | ⟨_, h3⟩
   ·exact hR.low _ (.inr (.inl ⟨d, hd⟩))
   ·exact hR.low _ (.inr (.inl ⟨e, h3⟩))
  ·rcases za7 hn with ⟨rfl, rfl⟩ | ⟨_, h3⟩
   ·rcases h with ⟨h1, rfl⟩ | h1
    ·exact hR.low _ (.inr (.inr ⟨n, d, hd, .inl ⟨h1, rfl⟩⟩))
    ·exact (hW.lt x h1).1
   ·exact hR.low _ (.inr (.inr ⟨n, e, h3, h⟩))
 ·show w'.heap[T.tb]? = some (.cells #[ptrV (some T.root), .int .i64 (T.clock + 1), .int .i64 (T.count + 0)] 115 (0, 0))
  rw [Int.add_zero]
  exact hT
 ·rcases za7 hn with ⟨rfl, rfl⟩ | ⟨h1, h3⟩
  ·refine ⟨hN, hW, fun h => ?_, (hR.node n d hd).file⟩
   have h' : d.dir = true := h
   rw [hdir] at h'
   cases h'
  ·exact hR.others hK [k] hF h3 (by simpa using h1)
 ·rcases za7 hn with ⟨rfl, rfl⟩ | ⟨_, h3⟩
  ·have h' : d.dir = true := h
   rw [hdir] at h'
   cases h'
  ·rcases za7 hn' with ⟨rfl, rfl⟩ | ⟨_, h3'⟩
   ·have h2 : d.dir = true := h'
    rw [hdir] at h2
    cases h2
   ·exact hR.maps n e n' e' h3 h3' h h' he
 ·have key : ∀ {m : Nat} {f : Nd}, m ≠ k → T.nd m = some f → f.bv.ownBlock = some r → bv.ownBlock = some r → False := by
   intro m f hm hf h1 h2
   rcases hnew r h2 with h3 | h3
   ·have := hR.lt (.inr (.inr ⟨m, f, hf, .inr h1⟩)); omega
   ·exact hm (hR.rows m f k d r hf hd h1 h3)
  rcases za7 hn with ⟨rfl, rfl⟩ | ⟨h1, h3⟩
  ·rcases za7 hn' with ⟨rfl, rfl⟩ | ⟨h1', h3'⟩
   ·rfl
   ·exact (key h1' h3' hr' hr).elim
  ·rcases za7 hn' with ⟨rfl, rfl⟩ | ⟨h1', h3'⟩
   ·exact (key h1 h3 hr hr').elim
   ·exact hR.rows n e n' e' r h3 h3' hr hr'
 ·obtain ⟨e, he, hed⟩ := hR.root
  by_cases h : T.root = k
  ·rw [h, hd] at he
   obtain rfl := Option.some.inj he
   rw [hdir] at hed
   cases hed
  ·exact ⟨e, (zdv _ _ h).trans he, hed⟩
 ·have look' : ∀ q, (∃ d', T.nd q = some d') → ∃ d', (T.setData k d bv b).nd q = some d' := by
   rintro q ⟨d', hd'⟩
   by_cases h1 : q = k
   ·exact ⟨_, (congrArg _ h1).trans (set_k _ _ _)⟩
   ·exact ⟨d', (zdv _ _ h1).trans hd'⟩
  rcases za7 hn with ⟨rfl, rfl⟩ | ⟨_, h3⟩
  ·exact look' q (hR.kids n d s q hd hq)
  ·exact look' q (hR.kids n e s q h3 hq)
end
section
theorem Kept.setHeap (w : World) (mb : Nat) (o : Obj) : Kept (fun b => b = mb) w { w with heap := w.heap.setIfInBounds mb o } :=
 ⟨rfl, rfl, rfl, by simp, fun k _ hk => by
  show (w.heap.setIfInBounds mb o)[k]? = w.heap[k]?
  rw [Array.getElem?_setIfInBounds, if_neg (fun e => hk e.symm)]⟩
theorem heap_setHeap {w : World} {mb : Nat} (h : mb < w.heap.size) (o : Obj) : ({ w with heap := w.heap.setIfInBounds mb o } : World).heap[mb]? = some o := by
 show (w.heap.setIfInBounds mb o)[mb]? = some o
 simp [h]
theorem look_none_idx {names : List (ByteArray × Nat)} {s : ByteArray} (h : look names s = none) : names.findIdx? (fun p => s == p.1) = none := by
 rw [look_idx] at h
 cases hj : names.findIdx? (fun p => s == p.1) with
 | none => rfl
 | some j => rw [hj] at h; cases h
theorem zd8 {names : List (ByteArray × Nat)} {s : ByteArray} (h : look names s = none) : ∀ p ∈ names, p.1 ≠ s := by
 intro p hp he
 unfold look at h
 rw [Option.map_eq_none_iff, List.find?_eq_none] at h
 exact h p hp (by rw [he]; exact (MapKept.bytes_beq s s).2 rfl)
theorem names_fresh {es : Array MapEntry} {names : List (ByteArray × Nat)} {s : ByteArray} (he : es.toList.map (fun e => (e.key, e.val)) = names.map (fun p => (Value.string p.1, Value.pointer (some ⟨p.2, 0, none⟩)))) (h : look names s = none) :
  ∀ x ∈ es.toList, x.key ≠ .string s := by
 intro x hx hk
 have h1 : (x.key, x.val) ∈ es.toList.map (fun e => (e.key, e.val)) := List.mem_map.2 ⟨x, hx, rfl⟩
 rw [he] at h1
 obtain ⟨p, hp, h2⟩ := List.mem_map.1 h1
 simp only [Prod.mk.injEq] at h2
 rw [hk] at h2
 exact zd8 h p hp (by simpa using h2.1)
theorem run_update_names {w : World} {mb : Nat} {names : List (ByteArray × Nat)} (h : zcl w mb names) (s : ByteArray) (hnew : look names s = none) (k : Nat) :
  ∃ w', (Instr.mapUpdate 105 (.map (some mb)) (.string s) (.pointer (some ⟨k, 0, none⟩))).run Tryz.prog w = .ok () w' ∧ zcl w' mb (names ++ [(s, k)]) ∧ Kept (fun b => b = mb) w w' := by
 obtain ⟨es, clock, hb, he, hsd⟩ := h
 have hm : Tryz.prog.underlying 105 = some (.map 9 103) := Tryz.underlying105
 have hs : Tryz.prog.underlying 9 = some .string := Tryz.underlying9
 have hf := zc8 s es.toList names 0 he
 rw [look_none_idx hnew] at hf
 have hg : (getObj mb).run Tryz.prog w = .ok (.map es clock) w := MapKept.run_getObj_map hb
 have hc := zeo hs false 9999 s w
 have hst := MapKept.run_setObj_map (P := Tryz.prog) (Obj.map (es.push { key := .string s, val := .pointer (some ⟨k, 0, none⟩), born := clock }) (clock + 1)) hb
 refine ⟨{ w with heap := w.heap.setIfInBounds mb (Obj.map (es.push { key := .string s, val := .pointer (some ⟨k, 0, none⟩), born := clock }) (clock + 1)) }, ?_, ?_, Kept.setHeap w mb _⟩
 ·simp [Instr.mapUpdate, run_underlying hm, hg, hc, Instr.findKey, run_underlying hs, hf, hst, Result.andThen]
 ·exact ⟨_, _, heap_setHeap (zab hb) _, by simp [he], MapKept.stamped_push hsd (names_fresh he hnew)⟩
end
end Go.Proofs.YteeeaeiafdgpkaaGreatDoor
