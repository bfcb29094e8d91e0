/-
 A kern's Read of an open file.
 A kern's Open of a file that is there: to write, to add, to read.
-/
import Derived.Test.YteeeaeiafdgpkaaGreatDoorKFileA
import Derived.Test.YteeeaeiafdgpkaaGreatDoorAwA
import Derived.Test.YteeeaeiafdgpkaaGreatDoorNewA
import Derived.Test.YteeeaeiafdgpkaaGreatDoorPutA
namespace Go.Proofs.YteeeaeiafdgpkaaGreatDoor
open Go Go.RowKit
open Go.Lib (hid)
section
theorem wrote_foot {P : Nat → Prop} {K : Ks} {b0 : Nat} {f : Fl} (hf0 : K.fl b0 = some f) {T' : Tr} {pos : Int} (hft : ∀ x, T'.foot x → K.T.foot x ∨ P x) : ∀ x, ({ K with T := T', fl := zaz K.fl b0 { f with pos := pos } } : Ks).foot x → K.foot x ∨ P x := by
 intro x hx
 rcases hx with (h1 | h1 | h1 | h1 | h1 | h1 | h1 | ⟨g, h1⟩ | ⟨c, g, h1, h2⟩) | hx
 ·exact .inl (.inl (.inl h1))
 ·exact .inl (.inl (.inr (.inl h1)))
 ·exact .inl (.inl (.inr (.inr (.inl h1))))
 ·exact .inl (.inl (.inr (.inr (.inr (.inl h1)))))
 ·exact .inl (.inl (.inr (.inr (.inr (.inr (.inl h1))))))
 ·exact .inl (.inl (.inr (.inr (.inr (.inr (.inr (.inl h1)))))))
 ·exact .inl (.inl (.inr (.inr (.inr (.inr (.inr (.inr (.inl h1))))))))
 ·have h3 : zaz K.fl b0 { f with pos := pos } x = some g := h1
  unfold zaz at h3
  by_cases hc : x = b0
  ·subst hc
   exact .inl (.inl (.inr (.inr (.inr (.inr (.inr (.inr (.inr (.inl ⟨f, hf0⟩)))))))))
  ·rw [if_neg hc] at h3
   exact .inl (.inl (.inr (.inr (.inr (.inr (.inr (.inr (.inr (.inl ⟨g, h3⟩)))))))))
 ·have h3 : zaz K.fl b0 { f with pos := pos } c = some g := h1
  unfold zaz at h3
  by_cases hc : c = b0
  ·rw [if_pos hc] at h3
   obtain rfl := Option.some.inj h3
   exact .inl (.inl (.inr (.inr (.inr (.inr (.inr (.inr (.inr (.inr ⟨b0, f, hf0, h2⟩)))))))))
  ·rw [if_neg hc] at h3
   exact .inl (.inl (.inr (.inr (.inr (.inr (.inr (.inr (.inr (.inr ⟨c, g, h3, h2⟩)))))))))
 ·rcases hft x hx with h | h
  ·exact .inl (.inr h)
  ·exact .inr h
def KFRead (B : Nat) (w : World) (K : Ks) (b0 : Nat) (f : Fl) (p : Nat) (l : List UInt8) (e : Ending) (w' : World) : Prop :=
 ∃ v, e = .returned (.tuple #[v, .nilIface]) ∧ w'.ownsRow w.heap.size 5 1 v l.length (u8s l) ∧ KRep B w' { K with fl := zaz K.fl b0 { f with pos := ((p + l.length : Nat) : Int) } } ∧ Kept K.foot w w' ∧
  (∀ x, ({ K with fl := zaz K.fl b0 { f with pos := ((p + l.length : Nat) : Int) } } : Ks).foot x → K.foot x)
theorem kfread_made {B : Nat} {w w' : World} {K : Ks} (hK : KRep B w K) {b0 : Nat} {f : Fl} (hf0 : K.fl b0 = some f) (hway : f.way = 0) {p : Nat} {l : List UInt8} {e : Ending} (h : FReadPost w b0 f.fb 0 p l e w') : KFRead B w K b0 f p l e w' := by
 obtain ⟨v, rfl, h1, h2, h3⟩ := h
 have hb0 : K.own b0 := .inr (.inr (.inr (.inr (.inr (.inr (.inr (.inl ⟨f, hf0⟩)))))))
 have hR : Rep B w' K.T := hK.tree.kept h2 (fun x hx he => hK.apart b0 hb0 (by rw [← he]; exact hx))
 rw [← hway] at h3
 exact ⟨v, rfl, h1, hK.wrote hf0 hR rfl (h2.mono (fun x hx => .inr hx)) (fun x hx => .inl hx) (fun n d hn hd => ⟨d, hn, hd⟩) h3, h2.mono (fun x hx => by rw [hx]; exact .inl hb0), fun x hx => (wrote_foot (P := fun _ => False) hf0 (fun x hx => .inl hx) x hx).resolve_right (fun h => h)⟩
set_option maxRecDepth 100000 in
set_option maxHeartbeats 1000000 in
theorem kread_file {B : Nat} {w : World} {K : Ks} (hK : KRep B w K) (fd n : Nat) (hfd : fd < 16) (b0 : Nat) (h : K.fds fd = some (.file b0)) (f : Fl) (hf0 : K.fl b0 = some f) (hway : f.way = 0) (p : Nat) (hpos : f.pos = p) (hp : p ≤ 4611686018427387904) (hn : n ≤ 9223372036854775807)
  (d : Nd) (hd : K.T.nd f.node = some d) (hdl : d.data.length ≤ 140737488355328) :
  Calls Tryz.prog 27 #[.pointer (some ⟨K.kb, 0, none⟩), .int .i64 fd, .int .i64 n] w fun e w' => KFRead B w K b0 f p (zb8 d.data p n) e w' := by
 have HU : Hid (Calls Tryz.prog 53 #[.pointer (some ⟨K.kb, 0, none⟩), .int .i64 fd] w fun e w' => za9 w true e w') := by
  have h1 := za2 hK.kern fd
  rw [zbc hfd, h] at h1
  exact h1
 have hc : w.cell? ⟨K.kb, 1 + fd, none⟩ = some (.iface 123 (.pointer (some ⟨b0, 0, none⟩))) := by
  have h1 := hK.kern.fd fd hfd
  rw [h] at h1
  exact h1
 have HR : Hid (Calls Tryz.prog 177 #[.pointer (some ⟨b0, 0, none⟩), .int .i64 n] w fun e w' => FReadPost w b0 f.fb 0 p (zb8 d.data p n) e w') := by
  have h2 := hK.file b0 f hf0
  have h3 := h2.1
  rw [hway, hpos] at h3
  exact fread_ok b0 f.fb p n w hK.tree f.node d hd hdl (by omega) (by omega) h3 h2.2.1
 have HKR := hid hK
 have HF0 := hid hf0
 have HWAY := hid hway
 have hfi : (fd : Int) < 16 := by omega
 generalize zb8 d.data p n = L at *
 clear hK h hf0 hway hpos hd hdl
 go_enter Tryz.func27, Tryz.ntmps27
 go_wp2_with fail
 refine HU.out.mono ?_
 rintro e w1 ⟨rfl, rfl⟩
 go_wp2_with fail
 refine HR.out.mono ?_
 intro e w2 hp
 have HX := hid (kfread_made HKR.out HF0.out HWAY.out hp)
 obtain ⟨v, rfl, hrow, _⟩ := hp
 obtain ⟨va, vc, rfl⟩ := zak hrow
 clear hrow
 go_wp2_with fail
 go_ret2
 exact HX.out
end
section
def OpenOld (B : Nat) (w : World) (T T' : Tr) (k : Nat) (e : Ending) (w' : World) : Prop :=
 ∃ f, e = .returned (.tuple #[.pointer (some ⟨f, 0, none⟩), .nilIface]) ∧ w.heap.size ≤ f ∧ zfx T.tb k w' f ∧ Rep B w' T' ∧ Kept T.foot w w' ∧ (∀ x, T'.foot x → (T.foot x ∨ w.heap.size ≤ x) ∧ x ≠ f)
def OpenPut (B : Nat) (w : World) (T : Tr) (k : Nat) (d : Nd) (l : List UInt8) (e : Ending) (w' : World) : Prop := ∃ bv, OpenOld B w T (T.setData k d bv l) k e w'
set_option maxRecDepth 100000 in
set_option maxHeartbeats 1000000 in
theorem open_old {E : Nat → Addr} {B : Nat} {T : Tr} (p : ByteArray) (way : Int) (hway : way = 1 ∨ way = 2) (w : World) (hE : Ctx E B w) (hR : Rep B w T) (hsz : p.size ≤ 9223372036854775807) (s : Spot) (hf : T.find p = .ok s)
  (hck0 : 0 ≤ T.clock) (hck : T.clock ≤ 1152921504606846976) (k : Nat) (d : Nd) (hk : s.n = some k) (hd : T.nd k = some d) (hdir : d.dir = false) (hdl : d.data.length ≤ 65536) :
  Calls Tryz.prog 49 #[.pointer (some ⟨T.tb, 0, none⟩), .string p, .int .i64 way] w fun e w' => OpenPut B w T k d (if way = 2 then d.data else []) e w' := by
 have HP : Hid (∀ add, Calls Tryz.prog 79 #[.pointer (some ⟨T.tb, 0, none⟩), .string p, .slice none 0 0, .bool add] w fun e w' => PutOld B w T k d (d.data.take (if add then d.data.length else 0) ++ []) e w') :=
  fun add => put_old0 p (.slice none 0 0) [] add w hE hR hsz s hf hck0 hck (Src.nil w) (fun h => absurd h (by simp)) k d hk hd hdir hdl _ rfl (by cases add <;> simp <;> omega)
 clear hE hR hf hk hd hdir hck0 hck hdl
 have key : ∀ (bv : Value) (l : List UInt8) (w1 : World), Rep B w1 (T.setData k d bv l) → Kept T.foot w w1 → (∀ x, (T.setData k d bv l).foot x → T.foot x ∨ w.heap.size ≤ x) →
   OpenPut B w T k d l (.returned (.tuple #[.pointer (some ⟨w1.heap.size, 0, none⟩), .nilIface])) (w1.alloc (.cells #[.pointer (some ⟨k, 0, none⟩), .pointer (some ⟨T.tb, 0, none⟩)] 168)) :=
  fun bv l w1 h2 h3 h4 => ⟨bv, w1.heap.size, rfl, h3.size, heap_alloc_new w1 _, h2.below (zad _ _), h3.alloc _, fun x hx => ⟨h4 x hx, Nat.ne_of_lt (h2.lt hx)⟩⟩
 have KEY := hid key
 clear key
 rcases hway with rfl | rfl
 ·go_enter Tryz.func49, Tryz.ntmps49
  go_wp2_with fail
  refine (HP.out _).mono ?_
  rintro e w1 ⟨bv, rfl, h2, h3, h4⟩
  have HX : Hid (OpenPut B w T k d [] (.returned (.tuple #[.pointer (some ⟨w1.heap.size, 0, none⟩), .nilIface])) (w1.alloc (.cells #[.pointer (some ⟨k, 0, none⟩), .pointer (some ⟨T.tb, 0, none⟩)] 168))) := by
   simp only [Bool.false_eq_true, if_false, List.take_zero, List.append_nil] at h2 h4
   exact KEY.out bv [] w1 h2 h3 h4
  clear h2 h3 h4
  go_wp2_with fail
  go_ret2
  exact HX.out
 ·go_enter Tryz.func49, Tryz.ntmps49
  go_wp2_with fail
  refine (HP.out _).mono ?_
  rintro e w1 ⟨bv, rfl, h2, h3, h4⟩
  have HX : Hid (OpenPut B w T k d d.data (.returned (.tuple #[.pointer (some ⟨w1.heap.size, 0, none⟩), .nilIface])) (w1.alloc (.cells #[.pointer (some ⟨k, 0, none⟩), .pointer (some ⟨T.tb, 0, none⟩)] 168))) := by
   simp only [if_true, List.take_length, List.append_nil] at h2 h4
   exact KEY.out bv d.data w1 h2 h3 h4
  clear h2 h3 h4
  go_wp2_with fail
  go_ret2
  exact HX.out
set_option maxRecDepth 100000 in
set_option maxHeartbeats 1000000 in
theorem open_read {E : Nat → Addr} {B : Nat} {T : Tr} (p : ByteArray) (w : World) (hE : Ctx E B w) (hR : Rep B w T) (hsz : p.size ≤ 9223372036854775807) (k : Nat) (hf : T.fileOf p = .ok k) :
  Calls Tryz.prog 49 #[.pointer (some ⟨T.tb, 0, none⟩), .string p, .int .i64 0] w fun e w' => OpenOld B w T T k e w' := by
 have HP : Hid (Calls Tryz.prog 78 #[.pointer (some ⟨T.tb, 0, none⟩), .string p] w fun e w' => zfy E w (.ok k) e w') := by
  have h := tree_file p w hE hR hsz
  rw [hf] at h
  exact h
 have HR := hid hR
 clear hE hR hf
 go_enter Tryz.func49, Tryz.ntmps49
 go_wp2_with fail
 refine HP.out.mono ?_
 intro e w1 hp
 obtain ⟨rfl, hb⟩ : e = .returned (.tuple #[.pointer (some ⟨k, 0, none⟩), .nilIface]) ∧ Below w.heap.size w w1 := hp
 have HX : Hid (OpenOld B w T T k (.returned (.tuple #[.pointer (some ⟨w1.heap.size, 0, none⟩), .nilIface])) (w1.alloc (.cells #[.pointer (some ⟨k, 0, none⟩), .pointer (some ⟨T.tb, 0, none⟩)] 168))) :=
  ⟨w1.heap.size, rfl, hb.size, heap_alloc_new w1 _, (HR.out.below hb).below (zad _ _), (Kept.of_below hb _).alloc _, fun x hx => ⟨.inl hx, by have := HR.out.lt hx; have := hb.size; omega⟩⟩
 clear hb HR HP
 go_wp2_with fail
 go_ret2
 exact HX.out
def KOpenOld (B : Nat) (w : World) (K : Ks) (T' : Tr) (k : Nat) (way : Int) (j : Nat) (e : Ending) (w' : World) : Prop :=
 ∃ f b, e = .returned (.tuple #[.int .i64 j, .nilIface]) ∧ w.heap.size ≤ f ∧ w.heap.size ≤ b ∧ KRep B w' (K.opened T' j b ⟨f, way, 0, k⟩) ∧ Kept K.foot w w' ∧
  (∀ x, (K.opened T' j b ⟨f, way, 0, k⟩).foot x → K.foot x ∨ w.heap.size ≤ x)
theorem kopen_made2 {B : Nat} {w w1 : World} {K : Ks} {T' : Tr} (hB : B ≤ w.heap.size) (hK : KRep B w K) {way : Int} {j : Nat} (hj : j < 16) {k f : Nat}
  (hf : w.heap.size ≤ f) (hof : zfx K.T.tb k w1 f) (hR : Rep B w1 T') (htb : T'.tb = K.T.tb) (hkp : Kept K.T.foot w w1) (hkn : ∃ d, T'.nd k = some d ∧ d.dir = false)
  (hft : ∀ x, T'.foot x → (K.T.foot x ∨ w.heap.size ≤ x) ∧ x ≠ f) (hfiles : ∀ n d, K.T.nd n = some d → d.dir = false → ∃ d', T'.nd n = some d' ∧ d'.dir = false) :
  KOpenOld B w K T' k way j (.returned (.tuple #[.int .i64 j, .nilIface])) ((w1.setCell ⟨K.kb, 1 + j, none⟩ (.iface 123 (.pointer (some ⟨w1.heap.size, 0, none⟩)))).alloc (.cells #[.pointer (some ⟨f, 0, none⟩), .int .i64 way, .int .i64 0] 125)) := by
 have hkb1 : K.kb < w1.heap.size := Nat.lt_of_lt_of_le hK.kern.lt hkp.size
 rw [← World.setCell_alloc_past _ K.kb (1 + j) _ hkb1]
 have h1 : KRep B w1 { K with T := T' } := hK.setTree hR htb hkp (fun x hx => (hft x hx).1) hfiles
 have h2 : KRep B (w1.alloc (.cells #[.pointer (some ⟨f, 0, none⟩), .int .i64 way, .int .i64 0] 125)) { K with T := T' } := h1.below (zad _ _)
 have hsz : w.heap.size ≤ w1.heap.size := hkp.size
 have h3 := h2.addFile (b := w1.heap.size) (f := ⟨f, way, 0, k⟩) (heap_alloc_new w1 _) ((Below.heap_alloc _ _ _ (zab hof)).trans (by rw [htb]; exact hof)) hkn (by omega) (by show B ≤ f; omega)
  (fun hx => by have := h1.tree.lt hx; omega) (fun hx => (hft _ hx).2 rfl)
 have h4 := h3.setFds (fds := zbx K.fds j (some (.file w1.heap.size))) (w' := (w1.alloc (.cells #[.pointer (some ⟨f, 0, none⟩), .int .i64 way, .int .i64 0] 125)).setCell ⟨K.kb, 1 + j, none⟩ (.iface 123 (.pointer (some ⟨w1.heap.size, 0, none⟩))))
  (h3.kern.set j hj (some (.file w1.heap.size))) ((Kept.refl (fun b => b = K.kb) _).setCell (p := ⟨K.kb, 1 + j, none⟩) (.inl rfl) _) (fun q => by
   unfold zbx
   split
   ·exact ⟨_, by show zaz K.fl _ _ _ = _; unfold zaz; rw [if_pos rfl]⟩
   ·exact h3.goodFds q)
 refine ⟨f, w1.heap.size, rfl, hf, hsz, h4, ?_, ?_⟩
 ·exact ((hkp.mono (F1 := K.foot) (fun x hx => .inr hx)).alloc _).setCell (p := ⟨K.kb, 1 + j, none⟩) (.inl (.inl (.inl rfl))) _
 ·rintro x (hx | hx)
  ·rcases hx with h1 | h1 | h1 | h1 | h1 | h1 | h1 | ⟨g, h1⟩ | ⟨c, g, h1, h2⟩
   ·exact .inl (.inl (.inl h1))
   ·exact .inl (.inl (.inr (.inl h1)))
   ·exact .inl (.inl (.inr (.inr (.inl h1))))
   ·exact .inl (.inl (.inr (.inr (.inr (.inl h1)))))
   ·exact .inl (.inl (.inr (.inr (.inr (.inr (.inl h1))))))
   ·exact .inl (.inl (.inr (.inr (.inr (.inr (.inr (.inl h1)))))))
   ·exact .inl (.inl (.inr (.inr (.inr (.inr (.inr (.inr (.inl h1))))))))
   ·have h3 : zaz K.fl w1.heap.size ⟨f, way, 0, k⟩ x = some g := h1
    unfold zaz at h3
    by_cases hc : x = w1.heap.size
    ·exact .inr (by omega)
    ·rw [if_neg hc] at h3
     exact .inl (.inl (.inr (.inr (.inr (.inr (.inr (.inr (.inr (.inl ⟨g, h3⟩)))))))))
   ·have h3 : zaz K.fl w1.heap.size ⟨f, way, 0, k⟩ c = some g := h1
    unfold zaz at h3
    by_cases hc : c = w1.heap.size
    ·rw [if_pos hc] at h3
     obtain rfl := Option.some.inj h3
     exact .inr (by rw [← h2]; exact hf)
    ·rw [if_neg hc] at h3
     exact .inl (.inl (.inr (.inr (.inr (.inr (.inr (.inr (.inr (.inr ⟨c, g, h3, h2⟩)))))))))
  ·rcases (hft x hx).1 with h | h
   ·exact .inl (.inr h)
   ·exact .inr h
end
end Go.Proofs.YteeeaeiafdgpkaaGreatDoor
