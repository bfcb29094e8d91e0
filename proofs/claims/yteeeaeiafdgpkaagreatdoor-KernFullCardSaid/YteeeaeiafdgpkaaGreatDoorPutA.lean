/-
 (*Tree).put, a file that there wasn't: its contract.
 (*Tree).put, a file that there was: its contract.
 put of a file that is new; no bytes may lie anywhere.
 put of a file that is there; no bytes may lie anywhere.
-/
import Derived.Test.YteeeaeiafdgpkaaGreatDoorAppA
namespace Go.Proofs.YteeeaeiafdgpkaaGreatDoor
open Go Go.RowKit
section
theorem goTo_form {T : Tr} : ∀ (l : List ByteArray) (s s' : Spot), T.goTo s l = some s' →
  (s' = s) ∨ ∃ i d, s'.inn = some i ∧ T.nd i = some d ∧ d.dir = true ∧ s'.n = look d.names s'.name
 | [], s, s', h => .inl (Option.some.inj h).symm
 | x :: l, s, s', h => by
  obtain ⟨inn, nm, nn⟩ := s
  cases nn with
  | none => cases h
  | some n =>
   cases hd : T.nd n with
   | none => simp [Tr.goTo, hd] at h
   | some d =>
    by_cases hdir : d.dir = true
    ·rw [Tr.goTo_cons_dir hd hdir] at h
     rcases goTo_form l _ _ h with rfl | h'
     ·exact .inr ⟨n, d, rfl, hd, hdir, rfl⟩
     ·exact .inr h'
    ·rw [Tr.goTo_cons_file hd (by simpa using hdir)] at h
     cases h
theorem find_form {T : Tr} {p : ByteArray} {s : Spot} (h : T.find p = .ok s) : (s = T.start) ∨ ∃ i d, s.inn = some i ∧ T.nd i = some d ∧ d.dir = true ∧ s.n = look d.names s.name := by
 unfold Tr.find at h
 cases hc : zbh p with
 | none => rw [hc] at h; cases h
 | some l =>
  rw [hc] at h
  simp only [Tr.parts] at h
  cases hg : T.goTo T.start l with
  | none => rw [hg] at h; cases h
  | some s' =>
   rw [hg] at h
   obtain rfl := Except.ok.inj h
   exact goTo_form l _ _ hg
def PutNew (B : Nat) (w : World) (T : Tr) (i : Nat) (di : Nd) (nm : ByteArray) (b : List UInt8) (e : Ending) (w' : World) : Prop :=
 ∃ k bv, e = .returned (.tuple #[.pointer (some ⟨k, 0, none⟩), .nilIface]) ∧ w.heap.size ≤ k ∧ Rep B w' (T.newFile i di nm k bv b) ∧ Kept T.foot w w' ∧ (∀ x, (T.newFile i di nm k bv b).foot x → T.foot x ∨ w.heap.size ≤ x)
set_option maxRecDepth 100000 in
set_option maxHeartbeats 4000000 in
theorem put_new {E : Nat → Addr} {B : Nat} {T : Tr} (p : ByteArray) (bv : Value) (b : List UInt8) (add : Bool) (w : World) (hE : Ctx E B w) (hR : Rep B w T) (hsz : p.size ≤ 9223372036854775807) (s : Spot) (hf : T.find p = .ok s)
  (hk : s.n = none) (hfull : T.count < 200) (hcnt : 0 ≤ T.count) (hck0 : 0 ≤ T.clock) (hck : T.clock ≤ 1152921504606846976) (hb : Src w bv b) (hbf : ∀ x, bv.ownBlock = some x → ¬ T.foot x) (hbl : b.length ≤ 65536)
  (i : Nat) (di : Nd) (hi : s.inn = some i) (hdi : T.nd i = some di) (hdir : di.dir = true) (hlk : look di.names s.name = none) :
  Calls Tryz.prog 79 #[.pointer (some ⟨T.tb, 0, none⟩), .string p, bv, .bool add] w fun e w' => PutNew B w T i di s.name b e w' := by
 have HF := zbz p w hE hR hsz
 rw [hf] at HF
 have HC : Hid (Calls Tryz.prog 55 #[.pointer (some ⟨T.tb, 0, none⟩), .string p] w fun e w' => zbn E w (.ok s) e w') := HF
 have HE : Hid (Ctx E B w) := hE
 have HR : Hid (Rep B w T) := hR
 have HK : Hid (s.n = none) := hk
 have HI : Hid (s.inn = some i) := hi
 have HDI : Hid (T.nd i = some di) := hdi
 have HDIR : Hid (di.dir = true) := hdir
 have HLK : Hid (look di.names s.name = none) := hlk
 have HS : Hid (Src w bv b) := hb
 have HSF : Hid (∀ x, bv.ownBlock = some x → ¬ T.foot x) := hbf
 have hbv : ∃ ba bc, bv = .slice ba b.length bc := by
  rcases hb with ⟨h1, h2⟩ | ⟨ad, c, h1, _⟩
  ·exact ⟨none, 0, by rw [h1, h2]; rfl⟩
  ·exact ⟨_, _, h1⟩
 obtain ⟨ba, bc, rfl⟩ := hbv
 clear HF hE hR hf hk hi hdi hdir hlk hb hbf
 go_enter Tryz.func79, Tryz.ntmps79
 go_wp2_with fail
 refine HC.out.mono ?_
 rintro e w1 ⟨hb, rfl⟩
 have HB : Hid (Below w.heap.size w w1) := hb
 have HRP : Hid (Rep B w1 T) := HR.out.below HB.out
 clear hb
 obtain ⟨inn, nm, nn⟩ := s
 obtain rfl : nn = none := HK.out
 obtain rfl : inn = some i := HI.out
 simp only [zct, za0, zau]
 have htl : T.tb < w1.heap.size := HRP.out.lt (.inl rfl)
 have hil : i < w1.heap.size := HRP.out.lt (.inr (.inl ⟨di, HDI.out⟩))
 have HNI : Hid (NodeAt B w1 i di) := HRP.out.node i di HDI.out
 have hc2 : w1.cell? ⟨T.tb, 2, none⟩ = some (.int .i64 T.count) := zaa HRP.out.tree rfl
 have hmi : w1.cell? ⟨i, 2, none⟩ = some (.map (some di.mb)) := by
  have h1 : w1.cell? ⟨i, 2, none⟩ = some (mapV di) := zaa HNI.out.cells rfl
  rw [h1]; simp [mapV, HDIR.out]
 generalize hcc : T.count = cnt at *
 have HCC : Hid (T.count = cnt) := hcc
 clear hcc
 have HWM : Hid (zcl ((w1.alloc (.cells #[.pointer (some ⟨i, 0, none⟩), .string nm, .pointer none] 142)).alloc (.cells #[.bool false, .slice none 0 0, .map none, .int .i64 1, .int .i64 0] 107)).drew di.mb di.names) :=
  (HNI.out.map HDIR.out).kept (Kept.of_below ((zaf (zad w1 _) (zad _ _)).drew) (fun _ => False)) (fun hf => hf)
 obtain ⟨w2, hrun, hm2, hk2⟩ := run_update_names HWM.out nm HLK.out (w1.heap.size + 1)
 have HM2 : Hid (zcl w2 di.mb (di.names ++ [(nm, w1.heap.size + 1)])) := hm2
 have HK2 : Hid (Kept (fun b => b = di.mb) ((w1.alloc (.cells #[.pointer (some ⟨i, 0, none⟩), .string nm, .pointer none] 142)).alloc (.cells #[.bool false, .slice none 0 0, .map none, .int .i64 1, .int .i64 0] 107)).drew w2) := hk2
 clear hm2 hk2
 go_wp2_with fail
 go_region
 clear hrun
 have HES : Hid (∃ es ck, w1.heap[di.mb]? = some (.map es ck)) := let ⟨es, ck, h, _⟩ := HNI.out.map HDIR.out; ⟨es, ck, h⟩
 have HT2 : Hid (w2.heap[T.tb]? = some (.cells #[ptrV (some T.root), .int .i64 T.clock, .int .i64 cnt] 115 (0, 0))) := by
  obtain ⟨es, ck, hes⟩ := HES.out
  show w2.heap[T.tb]? = _
  rw [HK2.out.block T.tb (by simp; omega) (zam HRP.out.tree hes), zdy, Below.heap_alloc _ _ _ (by simp; omega), Below.heap_alloc _ _ _ htl, ← HCC.out]
  exact HRP.out.tree
 have HI2 : Hid (w2.heap[i]? = some (.cells #[.bool di.dir, di.bv, mapV di, .int .i64 di.links, .int .i64 di.tick] 107 (0, 0))) := by
  obtain ⟨es, ck, hes⟩ := HES.out
  show w2.heap[i]? = _
  rw [HK2.out.block i (by simp; omega) (zam HNI.out.cells hes), zdy, Below.heap_alloc _ _ _ (by simp; omega), Below.heap_alloc _ _ _ hil]
  exact HNI.out.cells
 have HS2 : Hid (w2.heap[w1.heap.size]? = some (.cells #[.pointer (some ⟨i, 0, none⟩), .string nm, .pointer none] 142 (0, 0))) := by
  obtain ⟨es, ck, hes⟩ := HES.out
  show w2.heap[w1.heap.size]? = _
  have := zab hes
  rw [HK2.out.block _ (by simp; omega) (by omega), zdy, Below.heap_alloc _ _ _ (by simp)]
  exact heap_alloc_new w1 _
 have HN2 : Hid (w2.heap[w1.heap.size + 1]? = some (.cells #[.bool false, .slice none 0 0, .map none, .int .i64 1, .int .i64 0] 107 (0, 0))) := by
  obtain ⟨es, ck, hes⟩ := HES.out
  show w2.heap[w1.heap.size + 1]? = _
  have := zab hes
  rw [HK2.out.block _ (by simp) (by omega), zdy]
  have h := heap_alloc_new (w1.alloc (.cells #[.pointer (some ⟨i, 0, none⟩), .string nm, .pointer none] 142)) (.cells #[.bool false, .slice none 0 0, .map none, .int .i64 1, .int .i64 0] 107)
  simpa using h
 have HSZ2 : Hid (w1.heap.size + 2 ≤ w2.heap.size) := by have := HK2.out.size; simp at this; exact this
 have HKA : Hid (Kept (fun x => x = T.tb ∨ x = i ∨ x = di.mb) w w2) := by
  refine (((Kept.of_below HB.out (fun x => x = T.tb ∨ x = i ∨ x = di.mb)).alloc _).alloc _).drew.trans HK2.out ?_
  rintro x rfl
  exact .inl (.inr (.inr rfl))
 have HNEs : Hid (T.tb ≠ i ∧ T.tb < w1.heap.size ∧ i < w1.heap.size) := ⟨zac HRP.out.tree HNI.out.cells (by decide), htl, hil⟩
 clear hc2 hmi HWM HK2
 have h20 : w2.cell? ⟨T.tb, 2, none⟩ = some (.int .i64 cnt) := zaa HT2.out rfl
 have f20 : ∀ o, w2.frozen? ⟨T.tb, o, none⟩ = false := fun o => zah HT2.out o
 have g20 : w2.cell? ⟨w1.heap.size, 0, none⟩ = some (.pointer (some ⟨i, 0, none⟩)) := zaa HS2.out rfl
 have n1 : w1.heap.size ≠ T.tb := by omega
 have n2 : T.tb < w2.heap.size := zab HT2.out
 have n3 : w1.heap.size < w2.heap.size := zab HS2.out
 go_wp2_with fail
 have HT3 : Hid (((w2.setCell ⟨T.tb, 2, none⟩ (.int .i64 (cnt + 1))).alloc (.cells #[.pointer (some ⟨w1.heap.size + 1, 0, none⟩), .pointer (some ⟨i, 0, none⟩)] 103)).heap[T.tb]? = some (.cells #[ptrV (some T.root), .int .i64 T.clock, .int .i64 (cnt + 1)] 115 (0, 0))) := by
  show _ = _
  rw [Below.heap_alloc _ _ _ (by simp [World.setCell]; omega)]
  exact zaj HT2.out 2 _
 have HI3 : Hid (((w2.setCell ⟨T.tb, 2, none⟩ (.int .i64 (cnt + 1))).alloc (.cells #[.pointer (some ⟨w1.heap.size + 1, 0, none⟩), .pointer (some ⟨i, 0, none⟩)] 103)).heap[i]? = some (.cells #[.bool di.dir, di.bv, mapV di, .int .i64 di.links, .int .i64 di.tick] 107 (0, 0))) := by
  show _ = _
  have h1 := HNEs.out
  rw [Below.heap_alloc _ _ _ (by simp [World.setCell]; omega), zag _ _ _ (Ne.symm HNEs.out.1)]
  exact HI2.out
 have HN3 : Hid (((w2.setCell ⟨T.tb, 2, none⟩ (.int .i64 (cnt + 1))).alloc (.cells #[.pointer (some ⟨w1.heap.size + 1, 0, none⟩), .pointer (some ⟨i, 0, none⟩)] 103)).heap[w1.heap.size + 1]? = some (.cells #[.bool false, .slice none 0 0, .map none, .int .i64 1, .int .i64 0] 107 (0, 0))) := by
  show _ = _
  have h1 := HNEs.out
  have h2 := HSZ2.out
  rw [Below.heap_alloc _ _ _ (by simp [World.setCell]; omega), zag _ _ _ (by show w1.heap.size + 1 ≠ T.tb; omega)]
  exact HN2.out
 have HKA3 : Hid (Kept (fun x => x = T.tb ∨ x = i ∨ x = di.mb) w ((w2.setCell ⟨T.tb, 2, none⟩ (.int .i64 (cnt + 1))).alloc (.cells #[.pointer (some ⟨w1.heap.size + 1, 0, none⟩), .pointer (some ⟨i, 0, none⟩)] 103))) :=
  (HKA.out.setCell (p := ⟨T.tb, 2, none⟩) (.inl (.inl rfl)) _).alloc _
 have HS3 : Hid (((w2.setCell ⟨T.tb, 2, none⟩ (.int .i64 (cnt + 1))).alloc (.cells #[.pointer (some ⟨w1.heap.size + 1, 0, none⟩), .pointer (some ⟨i, 0, none⟩)] 103)).heap[w2.heap.size]? = some (.cells #[.pointer (some ⟨w1.heap.size + 1, 0, none⟩), .pointer (some ⟨i, 0, none⟩)] 103 (0, 0))) := by
  have h := heap_alloc_new (w2.setCell ⟨T.tb, 2, none⟩ (.int .i64 (cnt + 1))) (.cells #[.pointer (some ⟨w1.heap.size + 1, 0, none⟩), .pointer (some ⟨i, 0, none⟩)] 103)
  have e : (w2.setCell ⟨T.tb, 2, none⟩ (.int .i64 (cnt + 1))).heap.size = w2.heap.size := by simp [World.setCell]
  rw [e] at h
  exact h
 have HM3 : Hid (zcl ((w2.setCell ⟨T.tb, 2, none⟩ (.int .i64 (cnt + 1))).alloc (.cells #[.pointer (some ⟨w1.heap.size + 1, 0, none⟩), .pointer (some ⟨i, 0, none⟩)] 103)) di.mb (di.names ++ [(nm, w1.heap.size + 1)])) := by
  obtain ⟨es, ck, h1, h2⟩ := HM2.out
  refine ⟨es, ck, ?_, h2⟩
  rw [Below.heap_alloc _ _ _ (by simp [World.setCell]; exact zab h1), zag _ _ _ (Ne.symm (zam HT2.out h1))]
  exact h1
 have HSZ3 : Hid (w1.heap.size + 2 ≤ ((w2.setCell ⟨T.tb, 2, none⟩ (.int .i64 (cnt + 1))).alloc (.cells #[.pointer (some ⟨w1.heap.size + 1, 0, none⟩), .pointer (some ⟨i, 0, none⟩)] 103)).heap.size) := by
  have := HSZ2.out
  show _ ≤ _
  simp [World.setCell]
  omega
 refine (tick2 hck0 hck HT3.out HN3.out HI3.out HS3.out (by have := HNEs.out; omega)).mono ?_
 intro e w4 hp
 obtain ⟨rfl, hT4, hN4, hI4, hK4⟩ := hp
 have HT4 : Hid (w4.heap[T.tb]? = some (.cells #[ptrV (some T.root), .int .i64 (T.clock + 1), .int .i64 (cnt + 1)] 115 (0, 0))) := hT4
 have HN4 : Hid (w4.heap[w1.heap.size + 1]? = some (.cells #[.bool false, .slice none 0 0, .map none, .int .i64 1, .int .i64 (T.clock + 1)] 107 (0, 0))) := hN4
 have HI4 : Hid (w4.heap[i]? = some (.cells #[.bool di.dir, di.bv, mapV di, .int .i64 di.links, .int .i64 (T.clock + 1)] 107 (0, 0))) := hI4
 have HK4 : Hid (Kept (fun x => x = T.tb ∨ x = i ∨ x = di.mb) w w4) := HKA3.out.trans hK4 (by
  have h1 := HB.out.size
  rintro x (rfl | rfl | rfl)
  ·exact .inl (.inl rfl)
  ·exact .inr (by omega)
  ·exact .inl (.inr (.inl rfl)))
 have HM4 : Hid (zcl w4 di.mb (di.names ++ [(nm, w1.heap.size + 1)])) := HM3.out.kept hK4 (by
  obtain ⟨es, ck, h1, h2⟩ := HM3.out
  rintro (h | h | h)
  ·exact zam HT3.out h1 h.symm
  ·exact zam HN3.out h1 h.symm
  ·exact zam HI3.out h1 h.symm)
 have HSZ4 : Hid (w1.heap.size + 2 ≤ w4.heap.size) := Nat.le_trans HSZ3.out hK4.size
 clear hT4 hN4 hI4 hK4 HT3 HN3 HI3 HS3 HKA3 HM3 HSZ3 HT2 HI2 HS2 HN2 HSZ2 HKA HM2 h20 f20 g20 n1 n2 n3
 have h41 : w4.cell? ⟨w1.heap.size + 1, 1, none⟩ = some (.slice none 0 0) := zaa HN4.out rfl
 have f4 : ∀ o, w4.frozen? ⟨w1.heap.size + 1, o, none⟩ = false := fun o => zah HN4.out o
 have HS4 : Hid (Src w4 (.slice ba b.length bc) b) := HS.out.kept HK4.out (fun x hx hf => HSF.out x hx (by
  rcases hf with rfl | rfl | rfl
  ·exact .inl rfl
  ·exact .inr (.inl ⟨di, HDI.out⟩)
  ·exact .inr (.inr ⟨i, di, HDI.out, .inl ⟨HDIR.out, rfl⟩⟩)))
 go_wp2_with (at_builtin; refine zas rfl _ _ rfl w.heap.size (.slice none 0 0) 0 [] rfl (World.ownsRow_nil _ _ _ _) (.slice ba b.length bc) b rfl HS4.out (by omega) HK4.out.size ?_)
 intro v5 w5 hown5 hgrow5
 have HO5 : Hid (w5.ownsRow w.heap.size 5 1 v5 b.length (u8s b)) := hown5
 have HG5 : Hid (Below w4.heap.size w4 w5) := ⟨hgrow5.os, hgrow5.tape, hgrow5.output, hgrow5.size, fun k hk => hgrow5.block k hk (by simp [Value.ownBlock])⟩
 obtain ⟨a5, c5, hv5⟩ := zak hown5
 rw [hv5]
 have HV5 : Hid (v5 = .slice a5 b.length c5) := hv5
 clear hown5 hgrow5 hv5
 have h51 : w5.cell? ⟨w1.heap.size + 1, 1, none⟩ = some (.slice none 0 0) := zaa (zae HG5.out (zab HN4.out) HN4.out) rfl
 have f5 : ∀ o, w5.frozen? ⟨w1.heap.size + 1, o, none⟩ = false := fun o => zah (zae HG5.out (zab HN4.out) HN4.out) o
 go_wp2_with fail
 go_ret2
 have hk6 : Kept (fun x => x = T.tb ∨ x = i ∨ x = di.mb) w (w5.setCell ⟨w1.heap.size + 1, 1, none⟩ (.slice a5 b.length c5)) := by
  refine (HK4.out.then_below HG5.out).setCell (.inr ?_) _
  have := HB.out.size
  show w.heap.size ≤ w1.heap.size + 1
  omega
 have hne := HNEs.out
 have hes := HM4.out
 obtain ⟨es, ck, he1, he2⟩ := hes
 have hkl : w.heap.size ≤ w1.heap.size + 1 := by have := HB.out.size; omega
 have hrep := newFile_rep (b := b) (bv := v5) HR.out HE.out.env.size HDI.out HDIR.out (nm := nm) hkl hk6
  (by rw [zag _ _ _ (by show T.tb ≠ w1.heap.size + 1; omega), HCC.out]; exact zae HG5.out (zab HT4.out) HT4.out)
  (by rw [zag _ _ _ (by show i ≠ w1.heap.size + 1; omega)]; exact zae HG5.out (zab HI4.out) HI4.out)
  ⟨es, ck, by rw [zag _ _ _ (Ne.symm (zam HN4.out he1))]; exact zae HG5.out (zab he1) he1, he2⟩
  (by rw [HV5.out]; exact zaj (zae HG5.out (zab HN4.out) HN4.out) 1 _)
  (zai HO5.out (Kept.setCell (F := fun x => x = w1.heap.size + 1) (Kept.refl _ _) (.inl rfl) _) (by
   intro r hr hf
   obtain ⟨cr, hcr⟩ : ∃ cr, w5.heap[r]? = some (.cells cr 5 (0, 0)) := by
    rcases HO5.out.2 with ⟨q1, _⟩ | ⟨g, cap, cur, q1, _, q2, _⟩
    ·rw [q1] at hr; cases hr
    ·rw [q1] at hr
     simp only [Value.ownBlock, Option.some.injEq] at hr
     subst hr
     exact ⟨cur, q2⟩
   exact zac hcr (zae HG5.out (zab HN4.out) HN4.out) (by decide) hf))
 refine ⟨w1.heap.size + 1, v5, rfl, hkl, hrep.1, hk6.mono ?_, hrep.2⟩
 rintro x (rfl | rfl | rfl)
 ·exact .inl rfl
 ·exact .inr (.inl ⟨di, HDI.out⟩)
 ·exact .inr (.inr ⟨i, di, HDI.out, .inl ⟨HDIR.out, rfl⟩⟩)
end
section
def PutOld (B : Nat) (w : World) (T : Tr) (k : Nat) (d : Nd) (b : List UInt8) (e : Ending) (w' : World) : Prop :=
 ∃ bv, e = .returned (.tuple #[.pointer (some ⟨k, 0, none⟩), .nilIface]) ∧ Rep B w' (T.setData k d bv b) ∧ Kept T.foot w w' ∧ (∀ x, (T.setData k d bv b).foot x → T.foot x ∨ w.heap.size ≤ x)
theorem src_take {w : World} {base : Nat} {a : Option Addr} {c : Nat} {l : List UInt8} (h : w.ownsRow base 5 1 (.slice a l.length c) l.length (u8s l)) (m : Nat) (hm : m ≤ l.length) :
  Src w (.slice a m c) (l.take m) := by
 rcases Src.of_owns h with ⟨h1, rfl⟩ | ⟨ad, c', h1, h2, h3⟩
 ·simp only [Value.slice.injEq] at h1
  obtain ⟨rfl, _, rfl⟩ := h1
  have : m = 0 := by simpa using hm
  subst this
  exact .inl ⟨rfl, rfl⟩
 ·simp only [Value.slice.injEq] at h1
  obtain ⟨rfl, _, rfl⟩ := h1
  have e : (l.take m).length = m := by simp; omega
  refine .inr ⟨ad, c, by rw [e], by omega, fun j hj => ?_⟩
  rw [List.getElem_take]
  exact h3 j (by omega)
end
section
theorem Src.kept0 {w w' : World} {s : Value} {l : List UInt8} {F : Nat → Prop} (h : Src w s l) (k : Kept F w w') (hF : 0 < l.length → ∀ b, s.ownBlock = some b → ¬ F b) : Src w' s l := by
 by_cases h0 : 0 < l.length
 ·exact h.kept k (hF h0)
 ·rcases h with h | ⟨ad, c, rfl, hc, _⟩
  ·exact .inl h
  ·exact .inr ⟨ad, c, rfl, hc, fun j hj => absurd hj (by omega)⟩
end
section
set_option maxRecDepth 100000 in
set_option maxHeartbeats 4000000 in
theorem put_old0 {E : Nat → Addr} {B : Nat} {T : Tr} (p : ByteArray) (bv : Value) (b : List UInt8) (add : Bool) (w : World) (hE : Ctx E B w) (hR : Rep B w T) (hsz : p.size ≤ 9223372036854775807) (s : Spot) (hf : T.find p = .ok s)
  (hck0 : 0 ≤ T.clock) (hck : T.clock ≤ 1152921504606846976) (hb : Src w bv b) (hbf : 0 < b.length → ∀ x, bv.ownBlock = some x → ¬ T.foot x)
  (k : Nat) (d : Nd) (hk : s.n = some k) (hd : T.nd k = some d) (hdir : d.dir = false) (hdl : d.data.length ≤ 65536) (old : Nat) (hold : old = if add then d.data.length else 0) (hbl : old + b.length ≤ 65536) :
  Calls Tryz.prog 79 #[.pointer (some ⟨T.tb, 0, none⟩), .string p, bv, .bool add] w fun e w' => PutOld B w T k d (d.data.take old ++ b) e w' := by
 have HF := zbz p w hE hR hsz
 rw [hf] at HF
 have HC : Hid (Calls Tryz.prog 55 #[.pointer (some ⟨T.tb, 0, none⟩), .string p] w fun e w' => zbn E w (.ok s) e w') := HF
 have HE : Hid (Ctx E B w) := hE
 have HR : Hid (Rep B w T) := hR
 have HK : Hid (s.n = some k) := hk
 have HD : Hid (T.nd k = some d) := hd
 have HDIR : Hid (d.dir = false) := hdir
 have HS : Hid (Src w bv b) := hb
 have HSF : Hid (0 < b.length → ∀ x, bv.ownBlock = some x → ¬ T.foot x) := hbf
 have HOLD : Hid (old = if add then d.data.length else 0) := hold
 have hold' : old ≤ d.data.length := by rw [hold]; split <;> omega
 have hbv : ∃ ba bc, bv = .slice ba b.length bc := by
  rcases hb with ⟨h1, h2⟩ | ⟨ad, c, h1, _⟩
  ·exact ⟨none, 0, by rw [h1, h2]; rfl⟩
  ·exact ⟨_, _, h1⟩
 obtain ⟨ba, bc, rfl⟩ := hbv
 clear HF hE hR hf hk hd hdir hb hbf hold
 go_enter Tryz.func79, Tryz.ntmps79
 go_wp2_with fail
 refine HC.out.mono ?_
 rintro e w1 ⟨hb, rfl⟩
 have HB : Hid (Below w.heap.size w w1) := hb
 have HRP : Hid (Rep B w1 T) := HR.out.below HB.out
 clear hb
 obtain ⟨inn, nm, nn⟩ := s
 obtain rfl : nn = some k := HK.out
 simp only [zct, zau]
 have hc0 : w1.cell? ⟨k, 0, none⟩ = some (.bool false) := by rw [← HDIR.out]; exact zaa (HRP.out.node k d HD.out).cells rfl
 have hc1 : w1.cell? ⟨k, 1, none⟩ = some d.bv := zaa (HRP.out.node k d HD.out).cells rfl
 obtain ⟨av, cv, hbv⟩ := zak (HRP.out.node k d HD.out).row
 rw [hbv] at hc1
 have HBV : Hid (d.bv = .slice av d.data.length cv) := hbv
 clear hbv
 have hkl : k < w1.heap.size := HRP.out.node_lt HD.out
 unfold ptrV
 generalize inn.map (fun b => (⟨b, 0, none⟩ : Addr)) = ia
 generalize hdlen : d.data.length = dl at *
 have HDL : Hid (d.data.length = dl) := hdlen
 clear hdlen
 obtain ⟨bl, hbl'⟩ : ∃ n, n = b.length := ⟨_, rfl⟩
 cases add with
 | false =>
  obtain rfl : old = 0 := by have := HOLD.out; simpa using this
  go_wp2_with fail
  have HT3 : Hid (((w1.alloc (.cells #[.pointer ia, .string nm, .pointer (some ⟨k, 0, none⟩)] 142)).alloc (.cells #[.pointer (some ⟨k, 0, none⟩)] 103)).heap[T.tb]? = some (.cells #[ptrV (some T.root), .int .i64 T.clock, .int .i64 T.count] 115 (0, 0))) := by
   show _ = _
   have := zab HRP.out.tree
   rw [Below.heap_alloc _ _ _ (by simp; omega), Below.heap_alloc _ _ _ this]
   exact HRP.out.tree
  have HN3 : Hid (((w1.alloc (.cells #[.pointer ia, .string nm, .pointer (some ⟨k, 0, none⟩)] 142)).alloc (.cells #[.pointer (some ⟨k, 0, none⟩)] 103)).heap[k]? = some (.cells #[.bool d.dir, d.bv, mapV d, .int .i64 d.links, .int .i64 d.tick] 107 (0, 0))) := by
   show _ = _
   rw [Below.heap_alloc _ _ _ (by simp; omega), Below.heap_alloc _ _ _ hkl]
   exact (HRP.out.node k d HD.out).cells
  have HS3 : Hid (((w1.alloc (.cells #[.pointer ia, .string nm, .pointer (some ⟨k, 0, none⟩)] 142)).alloc (.cells #[.pointer (some ⟨k, 0, none⟩)] 103)).heap[w1.heap.size + 1]? = some (.cells #[.pointer (some ⟨k, 0, none⟩)] 103 (0, 0))) := by
   have h := heap_alloc_new (w1.alloc (.cells #[.pointer ia, .string nm, .pointer (some ⟨k, 0, none⟩)] 142)) (.cells #[.pointer (some ⟨k, 0, none⟩)] 103)
   have e : (w1.alloc (.cells #[.pointer ia, .string nm, .pointer (some ⟨k, 0, none⟩)] 142)).heap.size = w1.heap.size + 1 := by simp
   rw [e] at h
   exact h
  have HB3 : Hid (Below w.heap.size w ((w1.alloc (.cells #[.pointer ia, .string nm, .pointer (some ⟨k, 0, none⟩)] 142)).alloc (.cells #[.pointer (some ⟨k, 0, none⟩)] 103))) :=
   zaf (zaf HB.out (zad _ _)) (zad _ _)
  refine (tick1 hck0 hck HT3.out HN3.out HS3.out).mono ?_
  intro e w4 hp
  obtain ⟨rfl, hT4, hN4, hK4⟩ := hp
  have HT4 : Hid (w4.heap[T.tb]? = some (.cells #[ptrV (some T.root), .int .i64 (T.clock + 1), .int .i64 T.count] 115 (0, 0))) := hT4
  have HN4 : Hid (w4.heap[k]? = some (.cells #[.bool d.dir, d.bv, mapV d, .int .i64 d.links, .int .i64 (T.clock + 1)] 107 (0, 0))) := hN4
  have HK4 : Hid (Kept (fun x => x = T.tb ∨ x = k) w w4) := (Kept.of_below HB3.out (fun x => x = T.tb ∨ x = k)).trans hK4 (fun x hx => .inl hx)
  have hNodeF : ∀ r, d.bv.ownBlock = some r → ¬ (r = T.tb ∨ r = k) := by
   intro r hr
   obtain ⟨c, hc⟩ := (HR.out.node k d HD.out).row_block hr
   rintro (h | h)
   ·exact zac hc HR.out.tree (by decide) h
   ·exact zac hc (HR.out.node k d HD.out).cells (by decide) h
  have HRow4 : Hid (w4.ownsRow B 5 1 d.bv d.data.length (u8s d.data)) := zai (HR.out.node k d HD.out).row HK4.out hNodeF
  have HS4 : Hid (Src w4 (.slice ba b.length bc) b) := HS.out.kept0 HK4.out (fun h0 x hx hf => HSF.out h0 x hx (by
   rcases hf with rfl | rfl
   ·exact .inl rfl
   ·exact .inr (.inl ⟨d, HD.out⟩)))
  have HT0 : Hid (Src w4 (.slice av 0 cv) (d.data.take 0)) := by
   have h := HRow4.out
   rw [HBV.out, ← HDL.out] at h
   exact src_take h 0 (by rw [HDL.out]; omega)
  have HTL : Hid ((d.data.take 0).length = 0) := by show _ = _; rw [List.length_take, HDL.out]; omega
  generalize hhd : d.data.take 0 = hd at *
  have HHD : Hid (d.data.take 0 = hd) := hhd
  clear hhd
  have hcv : dl ≤ cv := by
   have h := HRow4.out.2
   rw [HBV.out] at h
   rcases h with ⟨h1, h2⟩ | ⟨g, cap, cur, h1, _, _, h2, _⟩
   ·simp only [Value.slice.injEq] at h1; omega
   ·simp only [Value.slice.injEq] at h1
    obtain ⟨_, _, rfl⟩ := h1
    rw [HDL.out] at h2
    exact h2
  clear hT4 hN4 hK4 HT3 HN3 HS3 HB3 hNodeF hc0 hc1
  have h41 : w4.cell? ⟨k, 1, none⟩ = some (.slice av dl cv) := by
   have h1 : w4.cell? ⟨k, 1, none⟩ = some d.bv := zaa HN4.out rfl
   rw [h1, HBV.out]
  have f4 : ∀ o, w4.frozen? ⟨k, o, none⟩ = false := fun o => zah HN4.out o
  go_wp2_with (at_builtin; refine zas rfl _ _ rfl w.heap.size (.slice none 0 0) 0 [] rfl (World.ownsRow_nil _ _ _ _) (.slice av 0 cv) hd rfl HT0.out ?hlen HK4.out.size ?_)
  case hlen => rw [HTL.out]; omega
  intro v5 w5 hown5 hgrow5
  have HO5 : Hid (w5.ownsRow w.heap.size 5 1 v5 0 (u8s hd)) := by
   show w5.ownsRow _ _ _ _ _ _
   have h := hown5
   rw [HTL.out] at h
   simpa using h
  have HG5 : Hid (Below w4.heap.size w4 w5) := ⟨hgrow5.os, hgrow5.tape, hgrow5.output, hgrow5.size, fun q hq => hgrow5.block q hq (by simp [Value.ownBlock])⟩
  have HS5 : Hid (Src w5 (.slice ba b.length bc) b) := HS4.out.kept (Kept.of_below HG5.out (fun _ => False)) (fun _ _ hf => hf)
  have HK5 : Hid (w.heap.size ≤ w5.heap.size) := Nat.le_trans HK4.out.size HG5.out.size
  clear hown5 hgrow5
  go_wp2_with (at_builtin; refine zas rfl _ _ rfl w.heap.size v5 0 (u8s hd) rfl HO5.out (.slice ba b.length bc) b rfl HS5.out (by omega) HK5.out ?_)
  intro v6 w6 hown6 hgrow6
  have HO6 : Hid (w6.ownsRow w.heap.size 5 1 v6 (hd ++ b).length (u8s (hd ++ b))) := by
   show w6.ownsRow _ _ _ _ _ _
   rw [List.length_append, HTL.out, zbw]
   simpa using hown6
  have HK6 : Hid (Kept (fun x => x = T.tb ∨ x = k) w w6) := (HK4.out.then_below HG5.out).grown hgrow6 (fun r hr => .inr (HO5.out.lt r hr).1)
  have HTK : Hid (T.tb < w.heap.size ∧ k < w.heap.size) := ⟨HR.out.lt (.inl rfl), HR.out.node_lt HD.out⟩
  have HT6 : Hid (w6.heap[T.tb]? = some (.cells #[ptrV (some T.root), .int .i64 (T.clock + 1), .int .i64 T.count] 115 (0, 0))) :=
   (hgrow6.block T.tb (Nat.lt_of_lt_of_le HTK.out.1 HK5.out) (fun e => by have := (HO5.out.lt _ e.symm).1; have := HTK.out; omega)).trans (zae HG5.out (zab HT4.out) HT4.out)
  have HN6 : Hid (w6.heap[k]? = some (.cells #[.bool d.dir, d.bv, mapV d, .int .i64 d.links, .int .i64 (T.clock + 1)] 107 (0, 0))) :=
   (hgrow6.block k (Nat.lt_of_lt_of_le HTK.out.2 HK5.out) (fun e => by have := (HO5.out.lt _ e.symm).1; have := HTK.out; omega)).trans (zae HG5.out (zab HN4.out) HN4.out)
  obtain ⟨a6, c6, hv6⟩ := zak HO6.out
  rw [hv6]
  have HV6 : Hid (v6 = .slice a6 (hd ++ b).length c6) := hv6
  clear hown6 hgrow6 hv6 h41 f4
  have h61 : w6.cell? ⟨k, 1, none⟩ = some d.bv := zaa HN6.out rfl
  have f6 : ∀ o, w6.frozen? ⟨k, o, none⟩ = false := fun o => zah HN6.out o
  go_wp2_with fail
  go_ret2
  rw [HHD.out]
  have hrep := zd6 (b := hd ++ b) (bv := v6) (w' := w6.setCell ⟨k, 1, none⟩ (.slice a6 (hd.length + b.length) c6)) HR.out HD.out HDIR.out
   ((HK6.out.setCell (p := ⟨k, 1, none⟩) (.inl (.inr rfl)) _).mono (fun x hx => by rcases hx with h | h; exact .inl h; exact .inr (.inl h)))
   (by rw [zag _ _ _ (zac HT6.out HN6.out (by decide))]; exact HT6.out)
   (by rw [HV6.out, List.length_append]; exact zaj HN6.out 1 _)
   (by
    have h1 : w6.ownsRow B 5 1 v6 (hd ++ b).length (u8s (hd ++ b)) := ⟨HO6.out.1, HO6.out.2.imp id (fun ⟨g, cap, cur, q1, q2, q3⟩ => ⟨g, cap, cur, q1, Nat.le_trans HE.out.env.size q2, q3⟩)⟩
    refine zai h1 (Kept.setCell (F := fun x => x = k) (Kept.refl _ _) (.inl rfl) _) ?_
    intro r hr hf
    have h2 := (HO6.out.lt r hr).1
    have h3 := HTK.out
    omega)
   (fun r hr => .inl (HO6.out.lt r hr).1)
  refine ⟨v6, rfl, hrep.1, ?_, hrep.2⟩
  refine (HK6.out.setCell (p := ⟨k, 1, none⟩) (.inl (.inr rfl)) _).mono ?_
  rintro x (rfl | rfl)
  ·exact .inl rfl
  ·exact .inr (.inl ⟨d, HD.out⟩)
 | true =>
  obtain rfl : old = dl := by have := HOLD.out; simpa using this
  go_wp2_with fail
  have HT3 : Hid (((w1.alloc (.cells #[.pointer ia, .string nm, .pointer (some ⟨k, 0, none⟩)] 142)).alloc (.cells #[.pointer (some ⟨k, 0, none⟩)] 103)).heap[T.tb]? = some (.cells #[ptrV (some T.root), .int .i64 T.clock, .int .i64 T.count] 115 (0, 0))) := by
   show _ = _
   have := zab HRP.out.tree
   rw [Below.heap_alloc _ _ _ (by simp; omega), Below.heap_alloc _ _ _ this]
   exact HRP.out.tree
  have HN3 : Hid (((w1.alloc (.cells #[.pointer ia, .string nm, .pointer (some ⟨k, 0, none⟩)] 142)).alloc (.cells #[.pointer (some ⟨k, 0, none⟩)] 103)).heap[k]? = some (.cells #[.bool d.dir, d.bv, mapV d, .int .i64 d.links, .int .i64 d.tick] 107 (0, 0))) := by
   show _ = _
   rw [Below.heap_alloc _ _ _ (by simp; omega), Below.heap_alloc _ _ _ hkl]
   exact (HRP.out.node k d HD.out).cells
  have HS3 : Hid (((w1.alloc (.cells #[.pointer ia, .string nm, .pointer (some ⟨k, 0, none⟩)] 142)).alloc (.cells #[.pointer (some ⟨k, 0, none⟩)] 103)).heap[w1.heap.size + 1]? = some (.cells #[.pointer (some ⟨k, 0, none⟩)] 103 (0, 0))) := by
   have h := heap_alloc_new (w1.alloc (.cells #[.pointer ia, .string nm, .pointer (some ⟨k, 0, none⟩)] 142)) (.cells #[.pointer (some ⟨k, 0, none⟩)] 103)
   have e : (w1.alloc (.cells #[.pointer ia, .string nm, .pointer (some ⟨k, 0, none⟩)] 142)).heap.size = w1.heap.size + 1 := by simp
   rw [e] at h
   exact h
  have HB3 : Hid (Below w.heap.size w ((w1.alloc (.cells #[.pointer ia, .string nm, .pointer (some ⟨k, 0, none⟩)] 142)).alloc (.cells #[.pointer (some ⟨k, 0, none⟩)] 103))) :=
   zaf (zaf HB.out (zad _ _)) (zad _ _)
  refine (tick1 hck0 hck HT3.out HN3.out HS3.out).mono ?_
  intro e w4 hp
  obtain ⟨rfl, hT4, hN4, hK4⟩ := hp
  have HT4 : Hid (w4.heap[T.tb]? = some (.cells #[ptrV (some T.root), .int .i64 (T.clock + 1), .int .i64 T.count] 115 (0, 0))) := hT4
  have HN4 : Hid (w4.heap[k]? = some (.cells #[.bool d.dir, d.bv, mapV d, .int .i64 d.links, .int .i64 (T.clock + 1)] 107 (0, 0))) := hN4
  have HK4 : Hid (Kept (fun x => x = T.tb ∨ x = k) w w4) := (Kept.of_below HB3.out (fun x => x = T.tb ∨ x = k)).trans hK4 (fun x hx => .inl hx)
  have hNodeF : ∀ r, d.bv.ownBlock = some r → ¬ (r = T.tb ∨ r = k) := by
   intro r hr
   obtain ⟨c, hc⟩ := (HR.out.node k d HD.out).row_block hr
   rintro (h | h)
   ·exact zac hc HR.out.tree (by decide) h
   ·exact zac hc (HR.out.node k d HD.out).cells (by decide) h
  have HRow4 : Hid (w4.ownsRow B 5 1 d.bv d.data.length (u8s d.data)) := zai (HR.out.node k d HD.out).row HK4.out hNodeF
  have HS4 : Hid (Src w4 (.slice ba b.length bc) b) := HS.out.kept0 HK4.out (fun h0 x hx hf => HSF.out h0 x hx (by
   rcases hf with rfl | rfl
   ·exact .inl rfl
   ·exact .inr (.inl ⟨d, HD.out⟩)))
  have HT0 : Hid (Src w4 (.slice av old cv) (d.data.take old)) := by
   have h := HRow4.out
   rw [HBV.out, ← HDL.out] at h
   exact src_take h old (by rw [HDL.out]; omega)
  have HTL : Hid ((d.data.take old).length = old) := by show _ = _; rw [List.length_take, HDL.out]; omega
  generalize hhd : d.data.take old = hd at *
  have HHD : Hid (d.data.take old = hd) := hhd
  clear hhd
  have hcv : old ≤ cv := by
   have h := HRow4.out.2
   rw [HBV.out] at h
   rcases h with ⟨h1, h2⟩ | ⟨g, cap, cur, h1, _, _, h2, _⟩
   ·simp only [Value.slice.injEq] at h1; omega
   ·simp only [Value.slice.injEq] at h1
    obtain ⟨_, _, rfl⟩ := h1
    rw [HDL.out] at h2
    exact h2
  clear hT4 hN4 hK4 HT3 HN3 HS3 HB3 hNodeF hc0 hc1
  have h41 : w4.cell? ⟨k, 1, none⟩ = some (.slice av old cv) := by
   have h1 : w4.cell? ⟨k, 1, none⟩ = some d.bv := zaa HN4.out rfl
   rw [h1, HBV.out]
  have f4 : ∀ o, w4.frozen? ⟨k, o, none⟩ = false := fun o => zah HN4.out o
  go_wp2_with (at_builtin; refine zas rfl _ _ rfl w.heap.size (.slice none 0 0) 0 [] rfl (World.ownsRow_nil _ _ _ _) (.slice av old cv) hd rfl HT0.out ?hlen HK4.out.size ?_)
  case hlen => rw [HTL.out]; omega
  intro v5 w5 hown5 hgrow5
  have HO5 : Hid (w5.ownsRow w.heap.size 5 1 v5 old (u8s hd)) := by
   show w5.ownsRow _ _ _ _ _ _
   have h := hown5
   rw [HTL.out] at h
   simpa using h
  have HG5 : Hid (Below w4.heap.size w4 w5) := ⟨hgrow5.os, hgrow5.tape, hgrow5.output, hgrow5.size, fun q hq => hgrow5.block q hq (by simp [Value.ownBlock])⟩
  have HS5 : Hid (Src w5 (.slice ba b.length bc) b) := HS4.out.kept (Kept.of_below HG5.out (fun _ => False)) (fun _ _ hf => hf)
  have HK5 : Hid (w.heap.size ≤ w5.heap.size) := Nat.le_trans HK4.out.size HG5.out.size
  clear hown5 hgrow5
  go_wp2_with (at_builtin; refine zas rfl _ _ rfl w.heap.size v5 old (u8s hd) rfl HO5.out (.slice ba b.length bc) b rfl HS5.out (by omega) HK5.out ?_)
  intro v6 w6 hown6 hgrow6
  have HO6 : Hid (w6.ownsRow w.heap.size 5 1 v6 (hd ++ b).length (u8s (hd ++ b))) := by
   show w6.ownsRow _ _ _ _ _ _
   rw [List.length_append, HTL.out, zbw]
   simpa using hown6
  have HK6 : Hid (Kept (fun x => x = T.tb ∨ x = k) w w6) := (HK4.out.then_below HG5.out).grown hgrow6 (fun r hr => .inr (HO5.out.lt r hr).1)
  have HTK : Hid (T.tb < w.heap.size ∧ k < w.heap.size) := ⟨HR.out.lt (.inl rfl), HR.out.node_lt HD.out⟩
  have HT6 : Hid (w6.heap[T.tb]? = some (.cells #[ptrV (some T.root), .int .i64 (T.clock + 1), .int .i64 T.count] 115 (0, 0))) :=
   (hgrow6.block T.tb (Nat.lt_of_lt_of_le HTK.out.1 HK5.out) (fun e => by have := (HO5.out.lt _ e.symm).1; have := HTK.out; omega)).trans (zae HG5.out (zab HT4.out) HT4.out)
  have HN6 : Hid (w6.heap[k]? = some (.cells #[.bool d.dir, d.bv, mapV d, .int .i64 d.links, .int .i64 (T.clock + 1)] 107 (0, 0))) :=
   (hgrow6.block k (Nat.lt_of_lt_of_le HTK.out.2 HK5.out) (fun e => by have := (HO5.out.lt _ e.symm).1; have := HTK.out; omega)).trans (zae HG5.out (zab HN4.out) HN4.out)
  obtain ⟨a6, c6, hv6⟩ := zak HO6.out
  rw [hv6]
  have HV6 : Hid (v6 = .slice a6 (hd ++ b).length c6) := hv6
  clear hown6 hgrow6 hv6 h41 f4
  have h61 : w6.cell? ⟨k, 1, none⟩ = some d.bv := zaa HN6.out rfl
  have f6 : ∀ o, w6.frozen? ⟨k, o, none⟩ = false := fun o => zah HN6.out o
  go_wp2_with fail
  go_ret2
  rw [HHD.out]
  have hrep := zd6 (b := hd ++ b) (bv := v6) (w' := w6.setCell ⟨k, 1, none⟩ (.slice a6 (hd.length + b.length) c6)) HR.out HD.out HDIR.out
   ((HK6.out.setCell (p := ⟨k, 1, none⟩) (.inl (.inr rfl)) _).mono (fun x hx => by rcases hx with h | h; exact .inl h; exact .inr (.inl h)))
   (by rw [zag _ _ _ (zac HT6.out HN6.out (by decide))]; exact HT6.out)
   (by rw [HV6.out, List.length_append]; exact zaj HN6.out 1 _)
   (by
    have h1 : w6.ownsRow B 5 1 v6 (hd ++ b).length (u8s (hd ++ b)) := ⟨HO6.out.1, HO6.out.2.imp id (fun ⟨g, cap, cur, q1, q2, q3⟩ => ⟨g, cap, cur, q1, Nat.le_trans HE.out.env.size q2, q3⟩)⟩
    refine zai h1 (Kept.setCell (F := fun x => x = k) (Kept.refl _ _) (.inl rfl) _) ?_
    intro r hr hf
    have h2 := (HO6.out.lt r hr).1
    have h3 := HTK.out
    omega)
   (fun r hr => .inl (HO6.out.lt r hr).1)
  refine ⟨v6, rfl, hrep.1, ?_, hrep.2⟩
  refine (HK6.out.setCell (p := ⟨k, 1, none⟩) (.inl (.inr rfl)) _).mono ?_
  rintro x (rfl | rfl)
  ·exact .inl rfl
  ·exact .inr (.inl ⟨d, HD.out⟩)
end
end Go.Proofs.YteeeaeiafdgpkaaGreatDoor
