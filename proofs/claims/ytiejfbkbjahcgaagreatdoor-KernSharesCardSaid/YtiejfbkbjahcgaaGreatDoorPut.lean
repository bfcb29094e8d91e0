/-
  (*Tree).put: its contract.
-/
import Derived.Test.YtiejfbkbjahcgaaGreatDoorTick
import Derived.Test.YtiejfbkbjahcgaaGreatDoorAppend
namespace Go.Proofs.YtiejfbkbjahcgaaGreatDoor
open Go Go.RowKit

def Tr.set (T : Tr) (k : Nat) (d : Nd) : Tr := { T with nd := fun i => if i = k then some d else T.nd i }
def Tr.tick (T : Tr) (n : Int) : Tr := { T with clock := T.clock + 1, count := T.count + n }

/-- What put leaves where it refuses. -/
def PutNo (E : Nat → Addr) (w : World) (c : Nat) (e : Ending) (w' : World) : Prop :=
  ∃ a, e = .returned (.tuple #[.pointer none, failV a]) ∧ Failed E w.heap.size w' a c ∧ Below w.heap.size w w'

theorem spotV_eq (s : Spot) : spotV s = .agg #[ptrV s.inn, .string s.name, ptrV s.n] := rfl

set_option maxRecDepth 100000 in
set_option maxHeartbeats 1000000 in
theorem put_err {E : Nat → Addr} {B : Nat} {T : Tr} (p : ByteArray) (bv : Value) (add : Bool) (w : World) (hE : Ctx E B w) (hR : Rep B w T) (hsz : p.size ≤ 9223372036854775807) (c : Nat) (hf : T.find p = .error c) :
    Calls Tryz.prog 75 #[.pointer (some ⟨T.tb, 0, none⟩), .string p, bv, .bool add] w fun e w' => PutNo E w c e w' := by
  have HF := find_any p w hE hR hsz
  rw [hf] at HF
  have HC : Hid (Calls Tryz.prog 73 #[.pointer (some ⟨T.tb, 0, none⟩), .string p] w fun e w' => FindPost E w (.error c) e w') := HF
  clear HF hE hR hf
  go_enter Tryz.func75, Tryz.ntmps75
  go_wp2_with fail
  refine HC.out.mono ?_
  rintro e w1 ⟨hb, a, rfl, hfl⟩
  have HB : Hid (Below w.heap.size w w1) := hb
  have HFL : Hid (Failed E w.heap.size w1 a c) := hfl
  clear hb hfl
  simp only [spotV, spot0, ptrV_none]
  go_wp2_with fail
  go_ret2
  exact ⟨a, rfl, HFL.out.below (below_alloc w1 _), below_trans HB.out (below_alloc w1 _)⟩

set_option maxRecDepth 100000 in
set_option maxHeartbeats 1000000 in
theorem put_dir {E : Nat → Addr} {B : Nat} {T : Tr} (p : ByteArray) (bv : Value) (add : Bool) (w : World) (hE : Ctx E B w) (hR : Rep B w T) (hsz : p.size ≤ 9223372036854775807) (s : Spot) (hf : T.find p = .ok s)
    (k : Nat) (d : Nd) (hk : s.n = some k) (hd : T.nd k = some d) (hdir : d.dir = true) :
    Calls Tryz.prog 75 #[.pointer (some ⟨T.tb, 0, none⟩), .string p, bv, .bool add] w fun e w' => PutNo E w 17 e w' := by
  have HF := find_any p w hE hR hsz
  rw [hf] at HF
  have HC : Hid (Calls Tryz.prog 73 #[.pointer (some ⟨T.tb, 0, none⟩), .string p] w fun e w' => FindPost E w (.ok s) e w') := HF
  have HE : Hid (Ctx E B w) := hE
  have HR : Hid (Rep B w T) := hR
  have HK : Hid (s.n = some k) := hk
  have HD : Hid (T.nd k = some d) := hd
  have HDIR : Hid (d.dir = true) := hdir
  have HKL : Hid (k < w.heap.size) := hR.lt (.inr (.inl ⟨d, hd⟩))
  clear HF hE hR hf hk hd hdir
  go_enter Tryz.func75, Tryz.ntmps75
  go_wp2_with fail
  refine HC.out.mono ?_
  rintro e w1 ⟨hb, rfl⟩
  have HB : Hid (Below w.heap.size w w1) := hb
  have HRP : Hid (Rep B w1 T) := HR.out.below HB.out
  clear hb
  obtain ⟨inn, nm, nn⟩ := s
  obtain rfl : nn = some k := HK.out
  simp only [spotV, ptrV_some]
  have hc0 : w1.cell? ⟨k, 0, none⟩ = some (.bool true) := by rw [← HDIR.out]; exact cell_of (HRP.out.node k d HD.out).cells rfl
  have hkl : k < w1.heap.size := HRP.out.lt (.inr (.inl ⟨d, HD.out⟩))
  unfold ptrV
  generalize inn.map (fun b => (⟨b, 0, none⟩ : Addr)) = ia
  go_wp2_with fail
  refine (tree_fail _ (HE.out.env.below (below_trans HB.out (below_alloc w1 _))) 17 (by unfold Used; omega)).mono ?_
  rintro e w2 ⟨a, rfl, hfail, hb2⟩
  have HF : Hid (PutNo E w 17 (.returned (.tuple #[.pointer none, failV a])) w2) :=
    ⟨a, rfl, hfail.mono (below_trans HB.out (below_alloc w1 _)).size, below_trans (below_trans HB.out (below_alloc w1 _)) hb2⟩
  clear hfail hb2
  go_wp2_with fail
  go_ret2
  exact HF.out

set_option maxRecDepth 100000 in
set_option maxHeartbeats 1000000 in
theorem put_full {E : Nat → Addr} {B : Nat} {T : Tr} (p : ByteArray) (bv : Value) (add : Bool) (w : World) (hE : Ctx E B w) (hR : Rep B w T) (hsz : p.size ≤ 9223372036854775807) (s : Spot) (hf : T.find p = .ok s)
    (hk : s.n = none) (hfull : 200 ≤ T.count) :
    Calls Tryz.prog 75 #[.pointer (some ⟨T.tb, 0, none⟩), .string p, bv, .bool add] w fun e w' => PutNo E w 19 e w' := by
  have HF := find_any p w hE hR hsz
  rw [hf] at HF
  have HC : Hid (Calls Tryz.prog 73 #[.pointer (some ⟨T.tb, 0, none⟩), .string p] w fun e w' => FindPost E w (.ok s) e w') := HF
  have HE : Hid (Ctx E B w) := hE
  have HR : Hid (Rep B w T) := hR
  have HK : Hid (s.n = none) := hk
  have HTL : Hid (T.tb < w.heap.size) := hR.lt (.inl rfl)
  clear HF hE hR hf hk
  go_enter Tryz.func75, Tryz.ntmps75
  go_wp2_with fail
  refine HC.out.mono ?_
  rintro e w1 ⟨hb, rfl⟩
  have HB : Hid (Below w.heap.size w w1) := hb
  have HRP : Hid (Rep B w1 T) := HR.out.below HB.out
  clear hb
  obtain ⟨inn, nm, nn⟩ := s
  obtain rfl : nn = none := HK.out
  simp only [spotV, ptrV_none]
  have htl : T.tb < w1.heap.size := HRP.out.lt (.inl rfl)
  have hc2 : w1.cell? ⟨T.tb, 2, none⟩ = some (.int .i64 T.count) := cell_of HRP.out.tree rfl
  unfold ptrV
  generalize inn.map (fun b => (⟨b, 0, none⟩ : Addr)) = ia
  generalize T.count = cnt at *
  go_wp2_with fail
  refine (tree_fail _ (HE.out.env.below (below_trans HB.out (below_alloc w1 _))) 19 (by unfold Used; omega)).mono ?_
  rintro e w2 ⟨a, rfl, hfail, hb2⟩
  have HF : Hid (PutNo E w 19 (.returned (.tuple #[.pointer none, failV a])) w2) :=
    ⟨a, rfl, hfail.mono (below_trans HB.out (below_alloc w1 _)).size, below_trans (below_trans HB.out (below_alloc w1 _)) hb2⟩
  clear hfail hb2
  go_wp2_with fail
  go_ret2
  exact HF.out

set_option maxRecDepth 100000 in
set_option maxHeartbeats 1000000 in
theorem put_great {E : Nat → Addr} {B : Nat} {T : Tr} (p : ByteArray) (ba : Option Addr) (bl bc : Nat) (add : Bool) (w : World) (hE : Ctx E B w) (hR : Rep B w T) (hsz : p.size ≤ 9223372036854775807) (s : Spot) (hf : T.find p = .ok s)
    (hk : s.n = none) (hfull : T.count < 200) (hbl : 65536 < bl) :
    Calls Tryz.prog 75 #[.pointer (some ⟨T.tb, 0, none⟩), .string p, .slice ba bl bc, .bool add] w fun e w' => PutNo E w 19 e w' := by
  have HF := find_any p w hE hR hsz
  rw [hf] at HF
  have HC : Hid (Calls Tryz.prog 73 #[.pointer (some ⟨T.tb, 0, none⟩), .string p] w fun e w' => FindPost E w (.ok s) e w') := HF
  have HE : Hid (Ctx E B w) := hE
  have HR : Hid (Rep B w T) := hR
  have HK : Hid (s.n = none) := hk
  have HTL : Hid (T.tb < w.heap.size) := hR.lt (.inl rfl)
  clear HF hE hR hf hk
  go_enter Tryz.func75, Tryz.ntmps75
  go_wp2_with fail
  refine HC.out.mono ?_
  rintro e w1 ⟨hb, rfl⟩
  have HB : Hid (Below w.heap.size w w1) := hb
  have HRP : Hid (Rep B w1 T) := HR.out.below HB.out
  clear hb
  obtain ⟨inn, nm, nn⟩ := s
  obtain rfl : nn = none := HK.out
  simp only [spotV, ptrV_none]
  have htl : T.tb < w1.heap.size := HRP.out.lt (.inl rfl)
  have hc2 : w1.cell? ⟨T.tb, 2, none⟩ = some (.int .i64 T.count) := cell_of HRP.out.tree rfl
  unfold ptrV
  generalize inn.map (fun b => (⟨b, 0, none⟩ : Addr)) = ia
  generalize T.count = cnt at *
  go_wp2_with fail
  refine (tree_fail _ (HE.out.env.below (below_trans HB.out (below_alloc w1 _))) 19 (by unfold Used; omega)).mono ?_
  rintro e w2 ⟨a, rfl, hfail, hb2⟩
  have HF : Hid (PutNo E w 19 (.returned (.tuple #[.pointer none, failV a])) w2) :=
    ⟨a, rfl, hfail.mono (below_trans HB.out (below_alloc w1 _)).size, below_trans (below_trans HB.out (below_alloc w1 _)) hb2⟩
  clear hfail hb2
  go_wp2_with fail
  go_ret2
  exact HF.out

set_option maxRecDepth 100000 in
set_option maxHeartbeats 1000000 in
theorem put_great2 {E : Nat → Addr} {B : Nat} {T : Tr} (p : ByteArray) (ba : Option Addr) (bl bc : Nat) (add : Bool) (w : World) (hE : Ctx E B w) (hR : Rep B w T) (hsz : p.size ≤ 9223372036854775807) (s : Spot) (hf : T.find p = .ok s)
    (k : Nat) (d : Nd) (hk : s.n = some k) (hd : T.nd k = some d) (hdir : d.dir = false) (hdl : d.data.length ≤ 65536) (hbl : 65536 < (if add then d.data.length else 0) + bl) :
    Calls Tryz.prog 75 #[.pointer (some ⟨T.tb, 0, none⟩), .string p, .slice ba bl bc, .bool add] w fun e w' => PutNo E w 19 e w' := by
  have HF := find_any p w hE hR hsz
  rw [hf] at HF
  have HC : Hid (Calls Tryz.prog 73 #[.pointer (some ⟨T.tb, 0, none⟩), .string p] w fun e w' => FindPost E w (.ok s) e w') := HF
  have HE : Hid (Ctx E B w) := hE
  have HR : Hid (Rep B w T) := hR
  have HK : Hid (s.n = some k) := hk
  have HD : Hid (T.nd k = some d) := hd
  have HDIR : Hid (d.dir = false) := hdir
  clear HF hE hR hf hk hd hdir
  go_enter Tryz.func75, Tryz.ntmps75
  go_wp2_with fail
  refine HC.out.mono ?_
  rintro e w1 ⟨hb, rfl⟩
  have HB : Hid (Below w.heap.size w w1) := hb
  have HRP : Hid (Rep B w1 T) := HR.out.below HB.out
  clear hb
  obtain ⟨inn, nm, nn⟩ := s
  obtain rfl : nn = some k := HK.out
  simp only [spotV, ptrV_some]
  have hc0 : w1.cell? ⟨k, 0, none⟩ = some (.bool false) := by rw [← HDIR.out]; exact cell_of (HRP.out.node k d HD.out).cells rfl
  have hc1 : w1.cell? ⟨k, 1, none⟩ = some d.bv := cell_of (HRP.out.node k d HD.out).cells rfl
  have hbv : ∃ a c, d.bv = .slice a d.data.length c := by
    rcases (HRP.out.node k d HD.out).row.2 with ⟨h1, h2⟩ | ⟨g, cap, cur, h1, _⟩
    · exact ⟨none, 0, by rw [h1, h2]⟩
    · exact ⟨_, _, h1⟩
  obtain ⟨av, cv, hbv⟩ := hbv
  rw [hbv] at hc1
  clear hbv
  have hkl : k < w1.heap.size := HRP.out.lt (.inr (.inl ⟨d, HD.out⟩))
  unfold ptrV
  generalize inn.map (fun b => (⟨b, 0, none⟩ : Addr)) = ia
  generalize d.data.length = dl at *
  cases add with
  | false =>
    simp only [Bool.false_eq_true, if_false] at hbl
    go_wp2_with fail
    refine (tree_fail _ (HE.out.env.below (below_trans HB.out (below_alloc w1 _))) 19 (by unfold Used; omega)).mono ?_
    rintro e w2 ⟨a, rfl, hfail, hb2⟩
    have HF : Hid (PutNo E w 19 (.returned (.tuple #[.pointer none, failV a])) w2) :=
      ⟨a, rfl, hfail.mono (below_trans HB.out (below_alloc w1 _)).size, below_trans (below_trans HB.out (below_alloc w1 _)) hb2⟩
    clear hfail hb2
    go_wp2_with fail
    go_ret2
    exact HF.out
  | true =>
    simp only [if_true] at hbl
    go_wp2_with fail
    refine (tree_fail _ (HE.out.env.below (below_trans HB.out (below_alloc w1 _))) 19 (by unfold Used; omega)).mono ?_
    rintro e w2 ⟨a, rfl, hfail, hb2⟩
    have HF : Hid (PutNo E w 19 (.returned (.tuple #[.pointer none, failV a])) w2) :=
      ⟨a, rfl, hfail.mono (below_trans HB.out (below_alloc w1 _)).size, below_trans (below_trans HB.out (below_alloc w1 _)) hb2⟩
    clear hfail hb2
    go_wp2_with fail
    go_ret2
    exact HF.out
end Go.Proofs.YtiejfbkbjahcgaaGreatDoor
