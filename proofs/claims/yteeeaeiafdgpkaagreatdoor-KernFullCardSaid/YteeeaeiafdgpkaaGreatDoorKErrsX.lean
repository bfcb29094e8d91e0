/-
 The program's kern where it refuses: own, Write, Read, Open, Pipe; Tree.
 The program's kern where it refuses: a file that is full, Read, Open, Pipe; Tree, Out, Err.
-/
import Derived.Test.YteeeaeiafdgpkaaGreatDoorKFileB
import Derived.Test.YteeeaeiafdgpkaaGreatDoorPipe
import Derived.Test.YteeeaeiafdgpkaaGreatDoorKIn
import Derived.Test.YteeeaeiafdgpkaaGreatDoorTell
import Derived.Deep.RegionHeld3
namespace Go.Proofs.YteeeaeiafdgpkaaGreatDoor
open Go Go.RowKit
open Go.Lib (hid)
section
set_option maxRecDepth 100000 in
set_option maxHeartbeats 1000000 in
theorem own_yes {E : Nat → Addr} {B L : Nat} {w : World} (hY : Ety B w) {a c : Nat} (h : zb6 E L w a c) :
  Calls Tryz.prog 54 #[refV a] w fun e w' => e = .returned (.bool true) ∧ Below w.heap.size w w' := by
 obtain ⟨b, _, h1, _⟩ := h
 have HT := hid (heap_alloc_new w (.cells #[.pointer none] 160))
 have HB := hid (zad w (.cells #[.pointer none] 160))
 have HY : Hid (Ety B (w.alloc (.cells #[.pointer none] 160))) := hY.below HB.out
 have HC : Hid ((w.alloc (.cells #[.pointer none] 160)).cell? ⟨a, 0, none⟩ = some (zcb b)) := zaa (zae HB.out (zab h1) h1) rfl
 clear hY h1
 go_enter Tryz.func54, Tryz.ntmps54
 go_wp2_with fail
 refine (as_refused a b w.heap.size _ HY.out HT.out HC.out).mono ?_
 rintro e w2 ⟨rfl, _, hk⟩
 have HK : Hid (Below w.heap.size w w2) := HB.out.trans (hk.below (B := w.heap.size) (fun k hk => by omega) HB.out.size)
 clear hk
 go_wp2_with fail
 go_ret
 exact ⟨rfl, HK.out⟩
set_option maxRecDepth 100000 in
set_option maxHeartbeats 1000000 in
theorem own_no {E : Nat → Addr} {B L : Nat} {w : World} (hY : Ety B w) {a c : Nat} (h : zbu E L w a c) :
  Calls Tryz.prog 54 #[zcb a] w fun e w' => e = .returned (.bool false) ∧ Below w.heap.size w w' := by
 obtain ⟨b, _, _, h1, h2⟩ := h
 have HT := hid (heap_alloc_new w (.cells #[.pointer none] 160))
 have HB := hid (zad w (.cells #[.pointer none] 160))
 have HY : Hid (Ety B (w.alloc (.cells #[.pointer none] 160))) := hY.below HB.out
 have HC : Hid ((w.alloc (.cells #[.pointer none] 160)).cell? ⟨a, 0, none⟩ = some (.iface 127 (.pointer (some ⟨b, 0, none⟩)))) := zaa (zae HB.out (zab h1) h1) rfl
 have HD : Hid ((w.alloc (.cells #[.pointer none] 160)).cell? ⟨b, 0, none⟩ = some (botV (E c))) := zaa (zae HB.out (zab h2) h2) rfl
 clear hY h1 h2
 go_enter Tryz.func54, Tryz.ntmps54
 go_wp2_with fail
 refine (as_refused_no (E c) a b w.heap.size _ HY.out HT.out HC.out HD.out).mono ?_
 rintro e w2 ⟨rfl, hk⟩
 have HK : Hid (Below w.heap.size w w2) := zaf HB.out hk
 clear hk
 go_wp2_with fail
 go_ret
 exact ⟨rfl, HK.out⟩
section
variable {E : Nat → Addr} {B : Nat} {w : World} {kb tb : Nat} {fds : Nat → Option End} {ob eb : Nat}
set_option maxRecDepth 100000 in
theorem kwrite_bad (hE : Env E B w) (h : KAt w kb tb fds ob eb) (fd : Int) (hu : za1 fds fd = false) (bv : Value) :
  Calls Tryz.prog 28 #[.pointer (some ⟨kb, 0, none⟩), .int .i64 fd, bv] w fun e w' => ErrNo E w 1 e w' := by
 have HU : Hid (Calls Tryz.prog 53 #[.pointer (some ⟨kb, 0, none⟩), .int .i64 fd] w fun e w' => za9 w false e w') := hu ▸ za2 h fd
 have HE := hid hE
 clear h hu hE
 go_enter Tryz.func28, Tryz.ntmps28
 go_wp2_with fail
 refine HU.out.mono ?_
 rintro e w1 ⟨rfl, rfl⟩
 go_wp2_with fail
 refine (zbf _ HE.out 1 (by unfold Used; omega)).mono ?_
 rintro e w2 ⟨a, rfl, hf, hb⟩
 have HF : Hid (ErrNo E w1 1 (.returned (refV a)) w2) := ⟨a, rfl, hf, hb⟩
 clear hf hb
 go_wp2_with fail
 go_ret
 exact HF.out
set_option maxRecDepth 100000 in
set_option maxHeartbeats 1000000 in
theorem kwrite_own_inp (hY : Ety B w) (h : KAt w kb tb fds ob eb) (fd : Nat) (hfd : fd < 16) {x : Nat} (hx : fds fd = some (.inp x)) (bv : Value) {c : Nat}
  (hw : Calls Tryz.prog 174 #[.pointer (some ⟨x, 0, none⟩), bv] w fun e w' => zba E w c e w') :
  Calls Tryz.prog 28 #[.pointer (some ⟨kb, 0, none⟩), .int .i64 fd, bv] w fun e w' => ErrNo E w c e w' := by
 have HU : Hid (Calls Tryz.prog 53 #[.pointer (some ⟨kb, 0, none⟩), .int .i64 fd] w fun e w' => za9 w true e w') := by
  have h1 := za2 h fd
  rw [zbc hfd, hx] at h1
  exact h1
 have hc : w.cell? ⟨kb, 1 + fd, none⟩ = some (.iface 65 (.pointer (some ⟨x, 0, none⟩))) := by
  have h1 := h.fd fd hfd
  rw [hx] at h1
  exact h1
 have HW := hid hw
 have HY := hid hY
 have hfi : (fd : Int) < 16 := by omega
 clear h hx hw hY
 go_enter Tryz.func28, Tryz.ntmps28
 go_wp2_with fail
 refine HU.out.mono ?_
 rintro e w1 ⟨rfl, rfl⟩
 go_wp2_with fail
 refine HW.out.mono ?_
 rintro e w2 ⟨a, rfl, hf, hb⟩
 have HO := hid (own_yes (HY.out.below hb) hf)
 have HF := hid hf
 have HB := hid hb
 clear hf hb
 go_wp2_with fail
 refine HO.out.mono ?_
 rintro e w3 ⟨rfl, hb3⟩
 have HF3 : Hid (ErrNo E w1 c (.returned (refV a)) w3) := ⟨a, rfl, HF.out.below hb3, zaf HB.out hb3⟩
 clear hb3
 go_wp2_with fail
 go_ret
 exact HF3.out
set_option maxRecDepth 100000 in
set_option maxHeartbeats 1000000 in
theorem ze2 (hY : Ety B w) (h : KAt w kb tb fds ob eb) (fd : Nat) (hfd : fd < 16) {x : Nat} (hx : fds fd = some (.out x)) (bv : Value) {c : Nat}
  (hw : Calls Tryz.prog 172 #[.pointer (some ⟨x, 0, none⟩), bv] w fun e w' => zba E w c e w') :
  Calls Tryz.prog 28 #[.pointer (some ⟨kb, 0, none⟩), .int .i64 fd, bv] w fun e w' => ErrNo E w c e w' := by
 have HU : Hid (Calls Tryz.prog 53 #[.pointer (some ⟨kb, 0, none⟩), .int .i64 fd] w fun e w' => za9 w true e w') := by
  have h1 := za2 h fd
  rw [zbc hfd, hx] at h1
  exact h1
 have hc : w.cell? ⟨kb, 1 + fd, none⟩ = some (.iface 57 (.pointer (some ⟨x, 0, none⟩))) := by
  have h1 := h.fd fd hfd
  rw [hx] at h1
  exact h1
 have HW := hid hw
 have HY := hid hY
 have hfi : (fd : Int) < 16 := by omega
 clear h hx hw hY
 go_enter Tryz.func28, Tryz.ntmps28
 go_wp2_with fail
 refine HU.out.mono ?_
 rintro e w1 ⟨rfl, rfl⟩
 go_wp2_with fail
 refine HW.out.mono ?_
 rintro e w2 ⟨a, rfl, hf, hb⟩
 have HO := hid (own_yes (HY.out.below hb) hf)
 have HF := hid hf
 have HB := hid hb
 clear hf hb
 go_wp2_with fail
 refine HO.out.mono ?_
 rintro e w3 ⟨rfl, hb3⟩
 have HF3 : Hid (ErrNo E w1 c (.returned (refV a)) w3) := ⟨a, rfl, HF.out.below hb3, zaf HB.out hb3⟩
 clear hb3
 go_wp2_with fail
 go_ret
 exact HF3.out
set_option maxRecDepth 100000 in
set_option maxHeartbeats 1000000 in
theorem kwrite_own_file (hY : Ety B w) (h : KAt w kb tb fds ob eb) (fd : Nat) (hfd : fd < 16) {x : Nat} (hx : fds fd = some (.file x)) (bv : Value) {c : Nat}
  (hw : Calls Tryz.prog 178 #[.pointer (some ⟨x, 0, none⟩), bv] w fun e w' => zba E w c e w') :
  Calls Tryz.prog 28 #[.pointer (some ⟨kb, 0, none⟩), .int .i64 fd, bv] w fun e w' => ErrNo E w c e w' := by
 have HU : Hid (Calls Tryz.prog 53 #[.pointer (some ⟨kb, 0, none⟩), .int .i64 fd] w fun e w' => za9 w true e w') := by
  have h1 := za2 h fd
  rw [zbc hfd, hx] at h1
  exact h1
 have hc : w.cell? ⟨kb, 1 + fd, none⟩ = some (.iface 123 (.pointer (some ⟨x, 0, none⟩))) := by
  have h1 := h.fd fd hfd
  rw [hx] at h1
  exact h1
 have HW := hid hw
 have HY := hid hY
 have hfi : (fd : Int) < 16 := by omega
 clear h hx hw hY
 go_enter Tryz.func28, Tryz.ntmps28
 go_wp2_with fail
 refine HU.out.mono ?_
 rintro e w1 ⟨rfl, rfl⟩
 go_wp2_with fail
 refine HW.out.mono ?_
 rintro e w2 ⟨a, rfl, hf, hb⟩
 have HO := hid (own_yes (HY.out.below hb) hf)
 have HF := hid hf
 have HB := hid hb
 clear hf hb
 go_wp2_with fail
 refine HO.out.mono ?_
 rintro e w3 ⟨rfl, hb3⟩
 have HF3 : Hid (ErrNo E w1 c (.returned (refV a)) w3) := ⟨a, rfl, HF.out.below hb3, zaf HB.out hb3⟩
 clear hb3
 go_wp2_with fail
 go_ret
 exact HF3.out
theorem iwrite_no (hE : Env E B w) (x : Nat) (bv : Value) : Calls Tryz.prog 174 #[.pointer (some ⟨x, 0, none⟩), bv] w fun e w' => zba E w 16 e w' := by
 have HE := hid hE
 clear hE
 go_enter Tryz.func174, Tryz.ntmps174
 go_wp2_with fail
 refine (zbf _ HE.out 16 (by unfold Used; omega)).mono ?_
 rintro e w2 ⟨a, rfl, hf, hb⟩
 have HF : Hid (zba E w 16 (.returned (refV a)) w2) := ⟨a, rfl, hf, hb⟩
 clear hf hb
 go_wp2_with fail
 go_ret
 exact HF.out
theorem owrite_full (hE : Env E B w) (x : Nat) {oa : Option Addr} {ol oc : Nat} (h0 : w.heap[x]? = some (.cells #[.slice oa ol oc] 59 (0, 0))) (hol : ol ≤ 65536) (ba : Option Addr) (bl bc : Nat) (hf : 65536 < ol + bl) : Calls Tryz.prog 172 #[.pointer (some ⟨x, 0, none⟩), .slice ba bl bc] w fun e w' => zba E w 19 e w' := by
 have HE := hid hE
 have g0 := zaa (o := 0) h0 rfl
 have e1 : IntKind.i64.wrap (65536 - (ol : Int)) = 65536 - ol := IntWalk.i64_in _ (by omega)
 have h2 : 65536 - (ol : Int) < bl := by omega
 clear hE h0
 go_enter Tryz.func172, Tryz.ntmps172
 go_wp2_with fail
 refine (zbf _ HE.out 19 (by unfold Used; omega)).mono ?_
 rintro e w2 ⟨a, rfl, hf, hb⟩
 have HF : Hid (zba E w 19 (.returned (refV a)) w2) := ⟨a, rfl, hf, hb⟩
 clear hf hb
 go_wp2_with fail
 go_ret
 exact HF.out
theorem fwrite_no (hE : Env E B w) (x fb : Nat) (pos : Int) (h0 : w.heap[x]? = some (.cells #[.pointer (some ⟨fb, 0, none⟩), .int .i64 0, .int .i64 pos] 125 (0, 0))) (bv : Value) : Calls Tryz.prog 178 #[.pointer (some ⟨x, 0, none⟩), bv] w fun e w' => zba E w 16 e w' := by
 have HE := hid hE
 have g0 := zaa (o := 1) h0 rfl
 clear hE h0
 go_enter Tryz.func178, Tryz.ntmps178
 go_wp2_with fail
 refine (zbf _ HE.out 16 (by unfold Used; omega)).mono ?_
 rintro e w2 ⟨a, rfl, hf, hb⟩
 have HF : Hid (zba E w 16 (.returned (refV a)) w2) := ⟨a, rfl, hf, hb⟩
 clear hf hb
 go_wp2_with fail
 go_ret
 exact HF.out
end
end
section
theorem kern_Out {B : Nat} {K : Ks} {w : World} (hK : KRep B w K) (hl : K.outL.length ≤ 65536) :
  Calls Tryz.prog 11 #[.pointer (some ⟨K.kb, 0, none⟩)] w fun e w' => zcx w K.outL e w' := by
 obtain ⟨oa, oc, hov⟩ := zak hK.outS
 have HS : Hid (Src w (.slice oa K.outL.length oc) K.outL) := by
  have h := Src.of_owns hK.outS
  rw [hov] at h
  exact h
 have g1 : w.cell? ⟨K.ob, 0, none⟩ = some (.slice oa K.outL.length oc) := by
  have h := hK.out
  rw [hov] at h
  exact zaa h rfl
 have g0 : w.cell? ⟨K.kb, 17, none⟩ = some (.pointer (some ⟨K.ob, 0, none⟩)) := by
  obtain ⟨c, h1, _, _, _, h2, _⟩ := hK.kern.cells
  exact zaa h1 h2
 clear hK hov
 go_enter Tryz.func11, Tryz.ntmps11
 go_wp2_with (at_builtin; refine zas rfl _ _ rfl w.heap.size (.slice none 0 0) 0 [] rfl (World.ownsRow_nil _ _ _ _) (.slice oa K.outL.length oc) K.outL rfl HS.out (by omega) (Nat.le_refl _) ?_)
 intro v' w2 hown hgrow
 obtain ⟨va, vc, rfl⟩ := zak hown
 have HFIN : Hid (zcx w K.outL (.returned (.slice va K.outL.length vc)) w2) := by
  exact ⟨_, rfl, hown, (Below.refl _ w).grown hgrow (Nat.le_refl _) (fun q hq => by cases hq)⟩
 clear hown hgrow HS g0 g1
 go_wp2_with fail
 go_ret
 exact HFIN.out
theorem kern_Err {B : Nat} {K : Ks} {w : World} (hK : KRep B w K) (hl : K.errL.length ≤ 65536) :
  Calls Tryz.prog 20 #[.pointer (some ⟨K.kb, 0, none⟩)] w fun e w' => zcx w K.errL e w' := by
 obtain ⟨oa, oc, hov⟩ := zak hK.errS
 have HS : Hid (Src w (.slice oa K.errL.length oc) K.errL) := by
  have h := Src.of_owns hK.errS
  rw [hov] at h
  exact h
 have g1 : w.cell? ⟨K.eb, 0, none⟩ = some (.slice oa K.errL.length oc) := by
  have h := hK.err
  rw [hov] at h
  exact zaa h rfl
 have g0 : w.cell? ⟨K.kb, 18, none⟩ = some (.pointer (some ⟨K.eb, 0, none⟩)) := by
  obtain ⟨c, h1, _, _, _, _, h2⟩ := hK.kern.cells
  exact zaa h1 h2
 clear hK hov
 go_enter Tryz.func20, Tryz.ntmps20
 go_wp2_with (at_builtin; refine zas rfl _ _ rfl w.heap.size (.slice none 0 0) 0 [] rfl (World.ownsRow_nil _ _ _ _) (.slice oa K.errL.length oc) K.errL rfl HS.out (by omega) (Nat.le_refl _) ?_)
 intro v' w2 hown hgrow
 obtain ⟨va, vc, rfl⟩ := zak hown
 have HFIN : Hid (zcx w K.errL (.returned (.slice va K.errL.length vc)) w2) := by
  exact ⟨_, rfl, hown, (Below.refl _ w).grown hgrow (Nat.le_refl _) (fun q hq => by cases hq)⟩
 clear hown hgrow HS g0 g1
 go_wp2_with fail
 go_ret
 exact HFIN.out
theorem ffull_cells {w w1 w' : World} {x fb : Nat} {a b : Value} (h : w.heap[x]? = some (.cells #[.pointer (some ⟨fb, 0, none⟩), a, b] 125 (0, 0))) (h1 : Below w.heap.size w w1) (hb : Below w1.heap.size w1 w') : w'.cell? ⟨x, 0, none⟩ = some (.pointer (some ⟨fb, 0, none⟩)) ∧ w'.cell? ⟨x, 2, none⟩ = some b :=
 have q := zae (zaf h1 hb) (zab h) h
 ⟨zaa q rfl, zaa q rfl⟩
def FFull (E : Nat → Addr) (w : World) (x fb : Nat) (way pos' : Int) (e : Ending) (w' : World) : Prop :=
 ∃ a, e = .returned (zcb a) ∧ zbu E w.heap.size w' a 19 ∧ w'.heap[x]? = some (.cells #[.pointer (some ⟨fb, 0, none⟩), .int .i64 way, .int .i64 pos'] 125 (0, 0)) ∧ Kept (fun q => q = x) w w'
set_option maxRecDepth 100000 in
set_option maxHeartbeats 1000000 in
theorem fwrite_full_one {E : Nat → Addr} {B : Nat} {w : World} (hE : Env E B w) (x fb : Nat) (hxB : B ≤ x) (p : Nat) (h0 : w.heap[x]? = some (.cells #[.pointer (some ⟨fb, 0, none⟩), .int .i64 1, .int .i64 p] 125 (0, 0))) (ba : Option Addr) (bl bc : Nat) (hbl : bl ≤ 4611686018427387904) (hfull : 65536 < p + bl) :
  Calls Tryz.prog 178 #[.pointer (some ⟨x, 0, none⟩), .slice ba bl bc] w fun e w' => FFull E w x fb 1 p e w' := by
 have HWA : Hid (∀ W, Hid (Kept (fun q => q = x) w W) → Calls Tryz.prog 180 #[.pointer (some ⟨fb, 0, none⟩), .int .i64 p, .slice ba bl bc] W fun e w' => ErrPost E W 19 e w') := fun W hW => writeAt_full fb p ba bl bc W (hE.kept hW.out (fun b hb => by rw [hb]; exact hxB)) hfull hbl
 have HX := hid h0
 obtain ⟨g0, g1, g2⟩ := zz3 h0
 have gf := fun o => zah h0 o
 have HKR : Hid (Kept (fun q => q = x) w w) := Kept.refl _ w
 have HKD : Hid (Kept (fun q => q = x) w w.drew) := (Kept.refl _ w).drew
 clear hE h0 hbl
 go_enter Tryz.func178, Tryz.ntmps178
 go_wp2_with fail
 go_region_held3 (fun W => W.cell? ⟨x, 0, none⟩ = some (.pointer (some ⟨fb, 0, none⟩)) ∧ W.cell? ⟨x, 2, none⟩ = some (.int .i64 p)) (first | with_reducible exact ⟨by assumption, by assumption⟩ | exact ⟨g0, g2⟩)
  (first | (go_at_call 180; refine (HWA.out _ (by with_reducible assumption)).mono ?_; rintro e w' ⟨a, rfl, hf, hb⟩; obtain ⟨c0, c2⟩ := ffull_cells HX.out (Below.refl _ w).drew hb))
 all_goals
  have HFIN : Hid (FFull E w x fb 1 p (.returned (zcb a)) w') := ⟨a, rfl, hf, (hb.block _ (zab HX.out)).trans HX.out, (Kept.of_below ((Below.refl _ w).drew) _).trans (Kept.of_below hb (fun _ => False)) (fun _ h => h.elim)⟩
  clear hf hb
  go_wp2_with fail
  go_ret
  exact HFIN.out
set_option maxRecDepth 100000 in
set_option maxHeartbeats 1000000 in
theorem fwrite_full_two {E : Nat → Addr} {B : Nat} {w : World} (hE : Env E B w) (x fb : Nat) (hxB : B ≤ x) (pos : Int) {k tb dl rc : Nat} {ra : Option Addr} (h0 : w.heap[x]? = some (.cells #[.pointer (some ⟨fb, 0, none⟩), .int .i64 2, .int .i64 pos] 125 (0, 0))) (hf : w.heap[fb]? = some (.cells #[.pointer (some ⟨k, 0, none⟩), .pointer (some ⟨tb, 0, none⟩)] 168 (0, 0))) {cs : Array Value} {kt : TypeId} (hk : w.heap[k]? = some (.cells cs kt (0, 0))) (hcs : cs[1]? = some (.slice ra dl rc)) (ba : Option Addr) (bl bc : Nat) (hbl : bl ≤ 4611686018427387904) (hfull : 65536 < dl + bl) :
  Calls Tryz.prog 178 #[.pointer (some ⟨x, 0, none⟩), .slice ba bl bc] w fun e w' => FFull E w x fb 2 dl e w' := by
 have HWA : Hid (∀ W, Hid (Kept (fun q => q = x) w W) → Calls Tryz.prog 180 #[.pointer (some ⟨fb, 0, none⟩), .int .i64 dl, .slice ba bl bc] W fun e w' => ErrPost E W 19 e w') := fun W hW => writeAt_full fb dl ba bl bc W (hE.kept hW.out (fun b hb => by rw [hb]; exact hxB)) hfull hbl
 have HSZ : Hid (∀ W, Below w.heap.size w W → Calls Tryz.prog 176 #[.pointer (some ⟨fb, 0, none⟩)] W fun e w' => e = .returned (.int .i64 dl) ∧ w' = W) := fun W hW => size_ok fb k tb ra dl rc W (zae hW (zab hf) hf) (zaa (o := 1) (zae hW (zab hk) hk) hcs)
 have HX := hid h0
 obtain ⟨g0, g1, g2⟩ := zz3 h0
 have gf := fun o => zah h0 o
 have HX2 : Hid ((w.setCell ⟨x, 2, none⟩ (.int .i64 dl)).heap[x]? = some (.cells #[.pointer (some ⟨fb, 0, none⟩), .int .i64 2, .int .i64 dl] 125 (0, 0))) := zaj HX.out 2 _
 have HKR : Hid (Kept (fun q => q = x) w (w.setCell ⟨x, 2, none⟩ (.int .i64 dl))) := (Kept.refl (fun q => q = x) w).setCell (p := ⟨x, 2, none⟩) (.inl rfl) _
 have HKD : Hid (Kept (fun q => q = x) w (w.setCell ⟨x, 2, none⟩ (.int .i64 dl)).drew) := HKR.out.drew
 have c0 := zaa (o := 0) HX2.out rfl
 have c2 := zaa (o := 2) HX2.out rfl
 clear hE h0 hbl hf hk hcs
 go_enter Tryz.func178, Tryz.ntmps178
 go_wp2_with fail
 refine (HSZ.out w (Below.refl _ w)).mono ?_
 rintro e w1 ⟨rfl, rfl⟩
 go_wp2_with fail
 clear g0 g1 g2 gf
 generalize w1.setCell ⟨x, 2, none⟩ (.int .i64 dl) = w3 at *
 go_region_held3 (fun W => W.cell? ⟨x, 0, none⟩ = some (.pointer (some ⟨fb, 0, none⟩)) ∧ W.cell? ⟨x, 2, none⟩ = some (.int .i64 dl)) (first | with_reducible exact ⟨by assumption, by assumption⟩ | exact ⟨c0, c2⟩)
  (first | (go_at_call 180; refine (HWA.out _ (by with_reducible assumption)).mono ?_; rintro e w' ⟨a, rfl, hf, hb⟩; obtain ⟨d0, d2⟩ := ffull_cells HX2.out (Below.refl _ w3).drew hb))
 all_goals
  have HFIN : Hid (FFull E w1 x fb 2 dl (.returned (zcb a)) w') := ⟨a, rfl, hf.mono (show w1.heap.size ≤ _ from HKD.out.size), (hb.block _ (zab HX2.out)).trans HX2.out, HKD.out.trans (Kept.of_below hb (fun _ => False)) (fun _ h => h.elim)⟩
  clear hf hb
  go_wp2_with fail
  go_ret
  exact HFIN.out
def KWFull (E : Nat → Addr) (B : Nat) (w : World) (K : Ks) (b0 : Nat) (f : Fl) (e : Ending) (w' : World) : Prop :=
 ∃ a pos', e = .returned (refV a) ∧ zb6 E w.heap.size w' a 19 ∧ (f.way = 1 → pos' = f.pos) ∧ KRep B w' { K with fl := zaz K.fl b0 { f with pos := pos' } } ∧ Kept K.foot w w' ∧ (∀ x, ({ K with fl := zaz K.fl b0 { f with pos := pos' } } : Ks).foot x → K.foot x ∨ w.heap.size ≤ x)
theorem kwfull_made {E : Nat → Addr} {B : Nat} {w w1 w' : World} {K : Ks} (hK : KRep B w K) {b0 : Nat} {f : Fl} (hf0 : K.fl b0 = some f) {e : Ending} {pos' : Int} (hp : f.way = 1 → pos' = f.pos) (h : FFull E w b0 f.fb f.way pos' e w1) (hb : Below w1.heap.size w1 w') {a : Nat} (ha : zb6 E w1.heap.size w' a 19) :
  KWFull E B w K b0 f (.returned (refV a)) w' := by
 obtain ⟨_, _, _, h2, h3⟩ := h
 have hb0 : K.own b0 := .inr (.inr (.inr (.inr (.inr (.inr (.inr (.inl ⟨f, hf0⟩)))))))
 have k : Kept (fun q => q = b0) w w' := h3.trans (Kept.of_below hb (fun _ => False)) (fun _ h => h.elim)
 have hR : Rep B w' K.T := hK.tree.kept k (fun x hx he => hK.apart b0 hb0 (by rw [← he]; exact hx))
 refine ⟨a, pos', rfl, ha.mono h3.size, hp, ?_, k.mono (fun x hx => by rw [hx]; exact .inl hb0), fun x hx => wrote_foot (P := fun x => w.heap.size ≤ x) hf0 (fun x hx => .inl hx) x hx⟩
 exact hK.wrote hf0 hR rfl (k.mono (fun x hx => .inr hx)) (fun x hx => .inl hx) (fun n d hn hd => ⟨d, hn, hd⟩) (zae hb (zab h2) h2)
set_option maxRecDepth 100000 in
set_option maxHeartbeats 1000000 in
theorem kwrite_full {E : Nat → Addr} {B : Nat} {w : World} {K : Ks} (hE : Env E B w) (hY : Ety B w) (hK : KRep B w K) (fd : Nat) (hfd : fd < 16) (b0 : Nat) (h : K.fds fd = some (.file b0)) (f : Fl) (hf0 : K.fl b0 = some f) (d : Nd) (p : Nat)
  (hw : (f.way = 1 ∧ f.pos = p) ∨ (f.way = 2 ∧ p = d.data.length)) (hd : K.T.nd f.node = some d) (ba : Option Addr) (bl bc : Nat) (hbl : bl ≤ 4611686018427387904) (hp : 65536 < p + bl) :
  Calls Tryz.prog 28 #[.pointer (some ⟨K.kb, 0, none⟩), .int .i64 fd, .slice ba bl bc] w fun e w' => KWFull E B w K b0 f e w' := by
 have HU : Hid (Calls Tryz.prog 53 #[.pointer (some ⟨K.kb, 0, none⟩), .int .i64 fd] w fun e w' => za9 w true e w') := by
  have h1 := za2 hK.kern fd
  rw [zbc hfd, h] at h1
  exact h1
 have hc : w.cell? ⟨K.kb, 1 + fd, none⟩ = some (.iface 123 (.pointer (some ⟨b0, 0, none⟩))) := by
  have h1 := hK.kern.fd fd hfd
  rw [h] at h1
  exact h1
 have hb0 : K.own b0 := .inr (.inr (.inr (.inr (.inr (.inr (.inr (.inl ⟨f, hf0⟩)))))))
 have HLOW := hid (hK.low b0 hb0)
 have HW : Hid (Calls Tryz.prog 178 #[.pointer (some ⟨b0, 0, none⟩), .slice ba bl bc] w fun e w' => ∃ pos', (f.way = 1 → pos' = f.pos) ∧ FFull E w b0 f.fb f.way pos' e w') := by
  have h2 := hK.file b0 f hf0
  rcases hw with ⟨hw, hq⟩ | ⟨hw, hq⟩
  ·have h3 := h2.1
   rw [hw, hq] at h3
   refine (fwrite_full_one hE b0 f.fb (hK.low b0 hb0) p h3 ba bl bc hbl hp).mono fun e w' hx => ⟨p, fun _ => hq.symm, ?_⟩
   rw [hw]
   exact hx
  ·have h3 := h2.1
   rw [hw] at h3
   obtain ⟨ra, rc, hrv⟩ := zak (hK.tree.node f.node d hd).row
   rw [hq] at hp
   refine (fwrite_full_two hE b0 f.fb (hK.low b0 hb0) f.pos h3 h2.2.1 (hK.tree.node f.node d hd).cells (by show some d.bv = _; rw [hrv]) ba bl bc hbl hp).mono fun e w' hx => ⟨d.data.length, fun h1 => by omega, ?_⟩
   rw [hw]
   exact hx
 have HKR := hid hK
 have HF0 := hid hf0
 have HE := hid hE
 have HY := hid hY
 have hfi : (fd : Int) < 16 := by omega
 clear hK h hf0 hw hd hE hY hb0 hp hbl
 go_enter Tryz.func28, Tryz.ntmps28
 go_wp2_with fail
 refine HU.out.mono ?_
 rintro e w1 ⟨rfl, rfl⟩
 go_wp2_with fail
 refine HW.out.mono ?_
 rintro e w2 ⟨pos', hpp, hff⟩
 have HPP := hid hpp
 have HFF := hid hff
 obtain ⟨a, rfl, hfl, hcx, hk⟩ := hff
 have HFL := hid hfl
 have HE2 : Hid (Env E B w2) := HE.out.kept hk (fun b hb => by rw [hb]; exact HLOW.out)
 have HY2 : Hid (Ety B w2) := HY.out.kept hk (fun b hb => by rw [hb]; exact HLOW.out)
 have HO := hid (own_no HY2.out hfl)
 clear hpp hfl hcx hk
 go_wp2_with fail
 refine HO.out.mono ?_
 rintro e w3 ⟨rfl, hb3⟩
 have HB3 := hid hb3
 have HT := hid (tell_failed w3 (HE2.out.below hb3) (HY2.out.below hb3) a 19 (by decide) (by decide) (HFL.out.below hb3))
 clear hb3
 go_wp2_with fail
 refine HT.out.mono ?_
 rintro e w4 ⟨rfl, hb4⟩
 have HB4 : Hid (Below w2.heap.size w2 w4) := zaf HB3.out hb4
 have HE4 := hid (HE2.out.below HB4.out)
 clear hb4
 have e19 : ((19 : Nat) : Int) = 19 := rfl
 simp only [faultV, e19]
 have hfd : ∀ W : World, (Instr.field 32 (.agg #[.int .i64 19, .int .i64 0, .int .i64 11]) 0).run Tryz.prog W = .ok (.int .i64 19) W := fun _ => by kernel_rfl
 go_wp2_with fail
 refine (zbf _ HE4.out 19 (by unfold Used; omega)).mono ?_
 rintro e w5 ⟨a2, rfl, hf, hb⟩
 have HFIN : Hid (KWFull E B w1 K b0 f (.returned (refV a2)) w5) := kwfull_made HKR.out HF0.out HPP.out HFF.out (zaf HB4.out hb) (hf.mono HB4.out.size)
 clear hf hb
 go_wp2_with fail
 go_ret
 exact HFIN.out
def RdNo (E : Nat → Addr) (w : World) (c : Nat) (e : Ending) (w' : World) : Prop :=
 ∃ a, e = .returned (.tuple #[.slice none 0 0, refV a]) ∧ zb6 E w.heap.size w' a c ∧ Below w.heap.size w w'
section
variable {E : Nat → Addr} {B : Nat} {w : World} {kb tb : Nat} {fds : Nat → Option End} {ob eb : Nat}
set_option maxRecDepth 100000 in
theorem kread_bad (hE : Env E B w) (h : KAt w kb tb fds ob eb) (fd n : Int) (hu : za1 fds fd = false) :
  Calls Tryz.prog 27 #[.pointer (some ⟨kb, 0, none⟩), .int .i64 fd, .int .i64 n] w fun e w' => RdNo E w 1 e w' := by
 have HU : Hid (Calls Tryz.prog 53 #[.pointer (some ⟨kb, 0, none⟩), .int .i64 fd] w fun e w' => za9 w false e w') := hu ▸ za2 h fd
 have HE := hid hE
 clear h hu hE
 go_enter Tryz.func27, Tryz.ntmps27
 go_wp2_with fail
 refine HU.out.mono ?_
 rintro e w1 ⟨rfl, rfl⟩
 go_wp2_with fail
 refine (zbf _ HE.out 1 (by unfold Used; omega)).mono ?_
 rintro e w2 ⟨a, rfl, hf, hb⟩
 have HF : Hid (RdNo E w1 1 (.returned (.tuple #[.slice none 0 0, refV a])) w2) := ⟨a, rfl, hf, hb⟩
 clear hf hb
 go_wp2_with fail
 go_ret2
 exact HF.out
set_option maxRecDepth 100000 in
theorem kread_neg (hE : Env E B w) (h : KAt w kb tb fds ob eb) (fd n : Int) (hu : za1 fds fd = true) (hn : n < 0) :
  Calls Tryz.prog 27 #[.pointer (some ⟨kb, 0, none⟩), .int .i64 fd, .int .i64 n] w fun e w' => RdNo E w 1 e w' := by
 have HU : Hid (Calls Tryz.prog 53 #[.pointer (some ⟨kb, 0, none⟩), .int .i64 fd] w fun e w' => za9 w true e w') := hu ▸ za2 h fd
 have HE := hid hE
 clear h hu hE
 go_enter Tryz.func27, Tryz.ntmps27
 go_wp2_with fail
 refine HU.out.mono ?_
 rintro e w1 ⟨rfl, rfl⟩
 go_wp2_with fail
 refine (zbf _ HE.out 1 (by unfold Used; omega)).mono ?_
 rintro e w2 ⟨a, rfl, hf, hb⟩
 have HF : Hid (RdNo E w1 1 (.returned (.tuple #[.slice none 0 0, refV a])) w2) := ⟨a, rfl, hf, hb⟩
 clear hf hb
 go_wp2_with fail
 go_ret2
 exact HF.out
theorem out_read_no (hE : Env E B w) (x : Nat) (n : Int) : Calls Tryz.prog 171 #[.pointer (some ⟨x, 0, none⟩), .int .i64 n] w fun e w' => RdNo E w 16 e w' := by
 have HE := hid hE
 clear hE
 go_enter Tryz.func171, Tryz.ntmps171
 go_wp2_with fail
 refine (zbf _ HE.out 16 (by unfold Used; omega)).mono ?_
 rintro e w2 ⟨a, rfl, hf, hb⟩
 have HF : Hid (RdNo E w 16 (.returned (.tuple #[.slice none 0 0, refV a])) w2) := ⟨a, rfl, hf, hb⟩
 clear hf hb
 go_wp2_with fail
 go_ret2
 exact HF.out
set_option maxRecDepth 100000 in
set_option maxHeartbeats 1000000 in
theorem kread_no_out (hE : Env E B w) (h : KAt w kb tb fds ob eb) (fd : Nat) (hfd : fd < 16) {x : Nat} (hx : fds fd = some (.out x)) (n : Int) (hn : 0 ≤ n) :
  Calls Tryz.prog 27 #[.pointer (some ⟨kb, 0, none⟩), .int .i64 fd, .int .i64 n] w fun e w' => RdNo E w 16 e w' := by
 have HU : Hid (Calls Tryz.prog 53 #[.pointer (some ⟨kb, 0, none⟩), .int .i64 fd] w fun e w' => za9 w true e w') := by
  have h1 := za2 h fd
  rw [zbc hfd, hx] at h1
  exact h1
 have hc : w.cell? ⟨kb, 1 + fd, none⟩ = some (.iface 57 (.pointer (some ⟨x, 0, none⟩))) := by
  have h1 := h.fd fd hfd
  rw [hx] at h1
  exact h1
 have HW := hid (out_read_no hE x n)
 have hfi : (fd : Int) < 16 := by omega
 have hn0 : ¬ n < 0 := by omega
 clear h hx hE hn
 go_enter Tryz.func27, Tryz.ntmps27
 go_wp2_with fail
 refine HU.out.mono ?_
 rintro e w1 ⟨rfl, rfl⟩
 go_wp2_with fail
 refine HW.out.mono ?_
 rintro e w2 ⟨a, rfl, hf, hb⟩
 have HF : Hid (RdNo E w1 16 (.returned (.tuple #[.slice none 0 0, refV a])) w2) := ⟨a, rfl, hf, hb⟩
 clear hf hb
 go_wp2_with fail
 go_ret2
 exact HF.out
theorem file_read_no (hE : Env E B w) (x : Nat) {fb : Nat} {way pos : Int} (h0 : w.heap[x]? = some (.cells #[.pointer (some ⟨fb, 0, none⟩), .int .i64 way, .int .i64 pos] 125 (0, 0))) (hway : ¬ way = 0) (n : Int) : Calls Tryz.prog 177 #[.pointer (some ⟨x, 0, none⟩), .int .i64 n] w fun e w' => RdNo E w 16 e w' := by
 have HE := hid hE
 have g1 := zaa (o := 1) h0 rfl
 clear hE
 go_enter Tryz.func177, Tryz.ntmps177
 go_wp2_with fail
 refine (zbf _ HE.out 16 (by unfold Used; omega)).mono ?_
 rintro e w2 ⟨a, rfl, hf, hb⟩
 have HF : Hid (RdNo E w 16 (.returned (.tuple #[.slice none 0 0, refV a])) w2) := ⟨a, rfl, hf, hb⟩
 clear hf hb
 go_wp2_with fail
 go_ret2
 exact HF.out
set_option maxRecDepth 100000 in
set_option maxHeartbeats 1000000 in
theorem kread_no_file (hE : Env E B w) (h : KAt w kb tb fds ob eb) (fd : Nat) (hfd : fd < 16) {x : Nat} (hx : fds fd = some (.file x)) {fb : Nat} {way pos : Int} (h0 : w.heap[x]? = some (.cells #[.pointer (some ⟨fb, 0, none⟩), .int .i64 way, .int .i64 pos] 125 (0, 0))) (hway : ¬ way = 0) (n : Int) (hn : 0 ≤ n) :
  Calls Tryz.prog 27 #[.pointer (some ⟨kb, 0, none⟩), .int .i64 fd, .int .i64 n] w fun e w' => RdNo E w 16 e w' := by
 have HU : Hid (Calls Tryz.prog 53 #[.pointer (some ⟨kb, 0, none⟩), .int .i64 fd] w fun e w' => za9 w true e w') := by
  have h1 := za2 h fd
  rw [zbc hfd, hx] at h1
  exact h1
 have hc : w.cell? ⟨kb, 1 + fd, none⟩ = some (.iface 123 (.pointer (some ⟨x, 0, none⟩))) := by
  have h1 := h.fd fd hfd
  rw [hx] at h1
  exact h1
 have HW := hid (file_read_no hE x h0 hway n)
 have hfi : (fd : Int) < 16 := by omega
 have hn0 : ¬ n < 0 := by omega
 clear h hx hE hn
 go_enter Tryz.func27, Tryz.ntmps27
 go_wp2_with fail
 refine HU.out.mono ?_
 rintro e w1 ⟨rfl, rfl⟩
 go_wp2_with fail
 refine HW.out.mono ?_
 rintro e w2 ⟨a, rfl, hf, hb⟩
 have HF : Hid (RdNo E w1 16 (.returned (.tuple #[.slice none 0 0, refV a])) w2) := ⟨a, rfl, hf, hb⟩
 clear hf hb
 go_wp2_with fail
 go_ret2
 exact HF.out
set_option maxRecDepth 100000 in
set_option maxHeartbeats 1000000 in
theorem kopen_full (hE : Env E B w) (h : KAt w kb tb fds ob eb) (hn : za3 fds 0 = none) (s : ByteArray) (way : Int) :
  Calls Tryz.prog 21 #[.pointer (some ⟨kb, 0, none⟩), .string s, .int .i64 way] w fun e w' => NumNo E w 19 e w' := by
 have HFR : Hid (Calls Tryz.prog 48 #[.pointer (some ⟨kb, 0, none⟩), .int .i64 0] w fun e w' => zcr w none e w') := by
  have h1 := zce h 0 (by omega)
  rw [hn] at h1
  exact h1
 have HE := hid hE
 clear h hE hn
 go_enter Tryz.func21, Tryz.ntmps21
 go_wp2_with fail
 refine HFR.out.mono ?_
 rintro e w1 ⟨rfl, rfl⟩
 simp only [freeV]
 go_wp2_with fail
 refine (zbf _ HE.out 19 (by unfold Used; omega)).mono ?_
 rintro e w2 ⟨a, rfl, hf, hb⟩
 have HF : Hid (NumNo E w1 19 (.returned (.tuple #[.int .i64 0, refV a])) w2) := ⟨a, rfl, hf, hb⟩
 clear hf hb
 go_wp2_with fail
 go_ret2
 exact HF.out
def OpnNo (E : Nat → Addr) (w : World) (c : Nat) (e : Ending) (w' : World) : Prop :=
 ∃ a, e = .returned (.tuple #[.int .i64 0, zcb a]) ∧ zbu E w.heap.size w' a c ∧ Below w.heap.size w w'
def PipNo (E : Nat → Addr) (w : World) (e : Ending) (w' : World) : Prop :=
 ∃ a, e = .returned (.tuple #[.int .i64 0, .int .i64 0, refV a]) ∧ zb6 E w.heap.size w' a 19 ∧ Below w.heap.size w w'
set_option maxRecDepth 100000 in
set_option maxHeartbeats 1000000 in
theorem kpipe_full0 (hE : Env E B w) (h : KAt w kb tb fds ob eb) (hn : za3 fds 0 = none) :
  Calls Tryz.prog 23 #[.pointer (some ⟨kb, 0, none⟩)] w fun e w' => PipNo E w e w' := by
 have HFR : Hid (Calls Tryz.prog 48 #[.pointer (some ⟨kb, 0, none⟩), .int .i64 0] w fun e w' => zcr w none e w') := by
  have h1 := zce h 0 (by omega)
  rw [hn] at h1
  exact h1
 have HE := hid hE
 clear h hE hn
 go_enter Tryz.func23, Tryz.ntmps23
 go_wp2_with fail
 refine HFR.out.mono ?_
 rintro e w1 ⟨rfl, rfl⟩
 simp only [freeV]
 go_wp2_with fail
 refine (zbf _ HE.out 19 (by unfold Used; omega)).mono ?_
 rintro e w2 ⟨a, rfl, hf, hb⟩
 have HF : Hid (PipNo E w1 (.returned (.tuple #[.int .i64 0, .int .i64 0, refV a])) w2) := ⟨a, rfl, hf, hb⟩
 clear hf hb
 go_wp2_with fail
 go_ret3
 exact HF.out
set_option maxRecDepth 100000 in
set_option maxHeartbeats 1000000 in
theorem kpipe_full1 (hE : Env E B w) (h : KAt w kb tb fds ob eb) {a : Nat} (ha : za3 fds 0 = some a) (hn : za3 fds (a + 1) = none) :
  Calls Tryz.prog 23 #[.pointer (some ⟨kb, 0, none⟩)] w fun e w' => PipNo E w e w' := by
 have ha16 : a < 16 := (zby ha).2.1
 have HFA : Hid (Calls Tryz.prog 48 #[.pointer (some ⟨kb, 0, none⟩), .int .i64 0] w fun e w' => zcr w (some a) e w') := by
  have h1 := zce h 0 (by omega)
  rw [ha] at h1
  exact h1
 have HFB : Hid (Calls Tryz.prog 48 #[.pointer (some ⟨kb, 0, none⟩), .int .i64 ((a : Int) + 1)] w fun e w' => zcr w none e w') := by
  have h1 := zce h (a + 1) (by omega)
  rw [hn] at h1
  exact h1
 have HE := hid hE
 have haj : (0 : Int) ≤ a := by omega
 have hai : (a : Int) < 16 := by omega
 clear h hE ha hn
 go_enter Tryz.func23, Tryz.ntmps23
 go_wp2_with fail
 refine HFA.out.mono ?_
 rintro e w1 ⟨rfl, rfl⟩
 simp only [freeV]
 go_wp2_with fail
 refine HFB.out.mono ?_
 rintro e w2 ⟨rfl, rfl⟩
 simp only [freeV]
 go_wp2_with fail
 refine (zbf _ HE.out 19 (by unfold Used; omega)).mono ?_
 rintro e w3 ⟨x, rfl, hf, hb⟩
 have HF : Hid (PipNo E w2 (.returned (.tuple #[.int .i64 0, .int .i64 0, refV x])) w3) := ⟨x, rfl, hf, hb⟩
 clear hf hb
 go_wp2_with fail
 go_ret3
 exact HF.out
theorem kern_Tree (h : KAt w kb tb fds ob eb) :
  Calls Tryz.prog 12 #[.pointer (some ⟨kb, 0, none⟩)] w fun e w' => e = .returned (.pointer (some ⟨tb, 0, none⟩)) ∧ w' = w := by
 have hkt : w.cell? ⟨kb, 0, none⟩ = some (.pointer (some ⟨tb, 0, none⟩)) := by
  obtain ⟨c, h1, _, h3, _⟩ := h.cells
  exact zaa h1 h3
 clear h
 go_enter Tryz.func12, Tryz.ntmps12
 go_wp2_with fail
 go_ret
 exact ⟨rfl, rfl⟩
end
end
end Go.Proofs.YteeeaeiafdgpkaaGreatDoor
