/-
  (*Tree).Write of a file that is new, and of one that is there; a tree of one file.
  (*Tree).Stat of a file.
-/
import Derived.Test.YtjhojohjegkinaaGreatDoorAwA
import Derived.Test.YtjhojohjegkinaaGreatDoorPutA
import Derived.BigRegion
namespace Go.Proofs.YtjhojohjegkinaaGreatDoor
open Go Go.RowKit

section
theorem Ctx.raise {E : Nat → Addr} {B : Nat} {w : World} (h : Ctx E B w) : Ctx E w.heap.size w :=
  ⟨⟨Nat.le_refl _, fun c h1 h2 => ⟨Nat.lt_of_lt_of_le (h.env.room c h1 h2).1 h.env.size, Nat.lt_of_lt_of_le (h.env.room c h1 h2).2 h.env.size⟩, h.env.glob, h.env.unlike, h.env.body⟩, h.max, Nat.lt_of_lt_of_le h.maxB h.env.size⟩

/-- What Write leaves where it makes a file. -/
def WNew (B : Nat) (w : World) (T : Tr) (i : Nat) (di : Nd) (nm : ByteArray) (b : List UInt8) (e : Ending) (w' : World) : Prop :=
  ∃ k bv, e = .returned .nilIface ∧ w.heap.size ≤ k ∧ Rep B w' (T.newFile i di nm k bv b) ∧ Kept T.foot w w' ∧ (∀ x, (T.newFile i di nm k bv b).foot x → T.foot x ∨ w.heap.size ≤ x)
/-- .. where it writes one that is there. -/
def WOld (B : Nat) (w : World) (T : Tr) (k : Nat) (d : Nd) (b : List UInt8) (e : Ending) (w' : World) : Prop :=
  ∃ bv, e = .returned .nilIface ∧ Rep B w' (T.setData k d bv b) ∧ Kept T.foot w w' ∧ (∀ x, (T.setData k d bv b).foot x → T.foot x ∨ w.heap.size ≤ x)

set_option maxRecDepth 100000 in
set_option maxHeartbeats 1000000 in
theorem write_new {E : Nat → Addr} {B : Nat} {T : Tr} (p : ByteArray) (bv : Value) (b : List UInt8) (add : Bool) (w : World) (hE : Ctx E B w) (hR : Rep B w T) (hsz : p.size ≤ 9223372036854775807) (s : Spot) (hf : T.find p = .ok s)
    (hk : s.n = none) (hfull : T.count < 200) (hcnt : 0 ≤ T.count) (hck0 : 0 ≤ T.clock) (hck : T.clock ≤ 1152921504606846976) (hb : Src w bv b) (hbf : 0 < b.length → ∀ x, bv.ownBlock = some x → ¬ T.foot x) (hbl : b.length ≤ 65536)
    (i : Nat) (di : Nd) (hi : s.inn = some i) (hdi : T.nd i = some di) (hdir : di.dir = true) (hlk : look di.names s.name = none) :
    Calls Tryz.prog 18 #[.pointer (some ⟨T.tb, 0, none⟩), .string p, bv, .bool add] w fun e w' => WNew B w T i di s.name b e w' := by
  have HP := Lib.hid (put_new0 p bv b add w hE hR hsz s hf hk hfull hcnt hck0 hck hb hbf hbl i di hi hdi hdir hlk)
  clear hE hR hsz hf hk hfull hcnt hck0 hck hb hbf hbl hi hdi hdir hlk
  go_enter Tryz.func18, Tryz.ntmps18
  go_wp2_with fail
  refine HP.out.mono ?_
  intro e w1 hp
  obtain ⟨k, bv', rfl, h1, h2, h3, h4⟩ := hp
  have HX : Hid (WNew B w T i di s.name b (.returned .nilIface) w1) := ⟨k, bv', rfl, h1, h2, h3, h4⟩
  clear h1 h2 h3 h4
  go_wp2_with fail
  go_ret
  exact HX.out

set_option maxRecDepth 100000 in
set_option maxHeartbeats 1000000 in
theorem write_old {E : Nat → Addr} {B : Nat} {T : Tr} (p : ByteArray) (bv : Value) (b : List UInt8) (add : Bool) (w : World) (hE : Ctx E B w) (hR : Rep B w T) (hsz : p.size ≤ 9223372036854775807) (s : Spot) (hf : T.find p = .ok s)
    (hck0 : 0 ≤ T.clock) (hck : T.clock ≤ 1152921504606846976) (hb : Src w bv b) (hbf : 0 < b.length → ∀ x, bv.ownBlock = some x → ¬ T.foot x)
    (k : Nat) (d : Nd) (hk : s.n = some k) (hd : T.nd k = some d) (hdir : d.dir = false) (hdl : d.data.length ≤ 65536) (old : Nat) (hold : old = if add then d.data.length else 0) (hbl : old + b.length ≤ 65536) :
    Calls Tryz.prog 18 #[.pointer (some ⟨T.tb, 0, none⟩), .string p, bv, .bool add] w fun e w' => WOld B w T k d (d.data.take old ++ b) e w' := by
  have HP := Lib.hid (put_old0 p bv b add w hE hR hsz s hf hck0 hck hb hbf k d hk hd hdir hdl old hold hbl)
  clear hE hR hsz hf hk hck0 hck hb hbf hbl hd hdir hdl hold
  go_enter Tryz.func18, Tryz.ntmps18
  go_wp2_with fail
  refine HP.out.mono ?_
  intro e w1 hp
  obtain ⟨bv', rfl, h2, h3, h4⟩ := hp
  have HX : Hid (WOld B w T k d (d.data.take old ++ b) (.returned .nilIface) w1) := ⟨bv', rfl, h2, h3, h4⟩
  clear h2 h3 h4
  go_wp2_with fail
  go_ret
  exact HX.out

theorem find_one (tb root mb : Nat) {nm : ByteArray} (hc : clean nm = some [nm]) : (newTr tb root mb).find nm = .ok ⟨some root, nm, none⟩ := by
  unfold Tr.find
  rw [hc]
  show (newTr tb root mb).parts [nm] = _
  refine Tr.parts_some ?_
  unfold Tr.start
  exact (Tr.goTo_cons_dir (T := newTr tb root mb) (newTr_root tb root mb) rfl none ByteArray.empty nm []).trans rfl

/-- A tree of one file. -/
structure TF (B : Nat) (w : World) (T : Tr) (nm : ByteArray) (k : Nat) (l : List UInt8) (n : Nat) : Prop where
  rep : Rep B w T
  clock : T.clock = n
  root : ∃ rd, T.nd T.root = some rd ∧ rd.dir = true ∧ rd.names = [(nm, k)]
  node : ∃ d, T.nd k = some d ∧ d.dir = false ∧ d.data = l ∧ d.links = 1 ∧ d.tick = n

theorem TF.find {B : Nat} {w : World} {T : Tr} {nm : ByteArray} {k n : Nat} {l : List UInt8} (h : TF B w T nm k l n) (hc : clean nm = some [nm]) : T.find nm = .ok ⟨some T.root, nm, some k⟩ := by
  obtain ⟨rd, h1, h2, h3⟩ := h.root
  unfold Tr.find
  rw [hc]
  show T.parts [nm] = _
  refine Tr.parts_some ?_
  unfold Tr.start
  refine (Tr.goTo_cons_dir h1 h2 none ByteArray.empty nm []).trans ?_
  have hb : (nm == nm) = true := (MapKept.bytes_beq nm nm).2 rfl
  rw [h3]
  simp [look, hb, Tr.goTo]



end

section
def statV (kind size links tick : Int) : Value := .agg #[.int .i64 kind, .int .i64 size, .int .i64 links, .int .i64 tick]
def StatPost (w : World) (v : Value) (e : Ending) (w' : World) : Prop := e = .returned (.tuple #[v, .nilIface]) ∧ Below w.heap.size w w'

set_option maxRecDepth 100000 in
set_option maxHeartbeats 4000000 in
theorem stat_file {E : Nat → Addr} {B : Nat} {T : Tr} (p : ByteArray) (w : World) (hE : Ctx E B w) (hR : Rep B w T) (hsz : p.size ≤ 9223372036854775807) (s : Spot) (hf : T.find p = .ok s) (k : Nat) (d : Nd) (hk : s.n = some k) (hd : T.nd k = some d) (hdir : d.dir = false) (_hlen : d.data.length ≤ 65536) :
    Calls Tryz.prog 16 #[.pointer (some ⟨T.tb, 0, none⟩), .string p] w fun e w' => StatPost w (statV 1 d.data.length d.links d.tick) e w' := by
  have HF : Hid (Calls Tryz.prog 67 #[.pointer (some ⟨T.tb, 0, none⟩), .string p] (w.alloc (.cells #[.int .i64 0, .int .i64 0, .int .i64 0, .int .i64 0] 30)) fun e w' => FindPost E (w.alloc (.cells #[.int .i64 0, .int .i64 0, .int .i64 0, .int .i64 0] 30)) (.ok s) e w') := by
    have h := find_any p (w.alloc (.cells #[.int .i64 0, .int .i64 0, .int .i64 0, .int .i64 0] 30)) (hE.below (below_alloc _ _)) (hR.below (below_alloc _ _)) hsz
    rw [hf] at h
    exact h
  have HR := Lib.hid hR
  have HD := Lib.hid hd
  obtain ⟨inn, nm, n⟩ := s
  simp only at hk
  subst hk
  clear hE hR hf
  go_enter Tryz.func16, Tryz.ntmps16
  go_wp2_with fail
  refine HF.out.mono ?_
  rintro e w1 ⟨hb1, rfl⟩
  have HB1 := Lib.hid hb1
  have HST : Hid (w1.heap[w.heap.size]? = some (.cells #[.int .i64 0, .int .i64 0, .int .i64 0, .int .i64 0] 30 (0, 0))) := by
    have h := heap_alloc_new w (.cells #[.int .i64 0, .int .i64 0, .int .i64 0, .int .i64 0] 30)
    exact below_heap hb1 (lt_of_heap h) h
  have HN1 := Lib.hid ((HR.out.below ((below_alloc _ _).trans (hb1.mono (below_alloc _ _).size))).node k d HD.out)
  have hz0 : w.heap.size < w1.heap.size := lt_of_heap HST.out
  have hkl : k < w1.heap.size := lt_of_heap HN1.out.cells
  clear hb1 HF HD hd
  simp only [spotV, ptrV_some]
  obtain ⟨av, cv, hbv⟩ := owns_form HN1.out.row
  unfold ptrV
  generalize inn.map (fun b => (⟨b, 0, none⟩ : Addr)) = ia
  have HH : Hid ((w1.alloc (.cells #[.pointer ia, .string nm, .pointer (some ⟨k, 0, none⟩)] 135)).heap[w1.heap.size]? = some (.cells #[.pointer ia, .string nm, .pointer (some ⟨k, 0, none⟩)] 135 (0, 0))) := heap_alloc_new _ _
  have HK2 : Hid ((w1.alloc (.cells #[.pointer ia, .string nm, .pointer (some ⟨k, 0, none⟩)] 135)).heap[k]? = some (.cells #[.bool false, .slice av d.data.length cv, mapV d, .int .i64 d.links, .int .i64 d.tick] 126 (0, 0))) := by
    have h := HN1.out.cells
    rw [hbv, hdir] at h
    exact (Below.heap_alloc _ _ _ hkl).trans h
  have HS2 : Hid ((w1.alloc (.cells #[.pointer ia, .string nm, .pointer (some ⟨k, 0, none⟩)] 135)).heap[w.heap.size]? = some (.cells #[.int .i64 0, .int .i64 0, .int .i64 0, .int .i64 0] 30 (0, 0))) := (Below.heap_alloc _ _ _ hz0).trans HST.out
  have HB2 : Hid (Below w.heap.size w (w1.alloc (.cells #[.pointer ia, .string nm, .pointer (some ⟨k, 0, none⟩)] 135))) := ((below_alloc _ _).trans (HB1.out.mono (below_alloc _ _).size)).alloc (Nat.le_of_lt hz0) _
  generalize hdl : d.data.length = dl at *
  generalize hdk : d.links = dk at *
  generalize hdt : d.tick = dt at *
  have HDL := Lib.hid hdl
  have HDK := Lib.hid hdk
  have HDT := Lib.hid hdt
  generalize mapV d = mv at *
  clear hdl hdk hdt hbv HN1 HST HB1 hdir
  have j0 := cell_of (o := 0) HK2.out rfl
  have jk : k ≠ w1.heap.size := by omega
  go_wp2_with fail
  clear j0
  generalize hW : (w1.alloc (.cells #[.pointer ia, .string nm, .pointer (some ⟨k, 0, none⟩)] 135)) = W at *
  have g2 : W.cell? ⟨w1.heap.size, 2, none⟩ = some (.pointer (some ⟨k, 0, none⟩)) := cell_of HH.out rfl
  have k0 : W.cell? ⟨k, 0, none⟩ = some (.bool false) := cell_of HK2.out rfl
  have k1 : W.cell? ⟨k, 1, none⟩ = some (.slice av dl cv) := cell_of HK2.out rfl
  have k3 : W.cell? ⟨k, 3, none⟩ = some (.int .i64 dk) := cell_of HK2.out rfl
  have k4 : W.cell? ⟨k, 4, none⟩ = some (.int .i64 dt) := cell_of HK2.out rfl
  have s0 : W.cell? ⟨w.heap.size, 0, none⟩ = some (.int .i64 0) := cell_of HS2.out rfl
  have s1 : W.cell? ⟨w.heap.size, 1, none⟩ = some (.int .i64 0) := cell_of HS2.out rfl
  have s2 : W.cell? ⟨w.heap.size, 2, none⟩ = some (.int .i64 0) := cell_of HS2.out rfl
  have s3 : W.cell? ⟨w.heap.size, 3, none⟩ = some (.int .i64 0) := cell_of HS2.out rfl
  have sf : ∀ o, W.frozen? ⟨w.heap.size, o, none⟩ = false := fun o => free_of HS2.out o
  have hsz2 : w.heap.size < W.heap.size := lt_of_heap HS2.out
  clear hW
  go_wp2_with fail
  have HW4 : Hid ((((((W.setCell ⟨w.heap.size, 0, none⟩ (.int .i64 1)).setCell ⟨w.heap.size, 1, none⟩ (.int .i64 dl)).setCell ⟨w.heap.size, 2, none⟩ (.int .i64 dk)).setCell ⟨w.heap.size, 3, none⟩ (.int .i64 dt)).drew).heap[w.heap.size]? = some (.cells #[.int .i64 1, .int .i64 dl, .int .i64 dk, .int .i64 dt] 30 (0, 0))) :=
    heap_set_same (heap_set_same (heap_set_same (heap_set_same HS2.out 0 _) 1 _) 2 _) 3 _
  have HB4 : Hid (Below w.heap.size w (((((W.setCell ⟨w.heap.size, 0, none⟩ (.int .i64 1)).setCell ⟨w.heap.size, 1, none⟩ (.int .i64 dl)).setCell ⟨w.heap.size, 2, none⟩ (.int .i64 dk)).setCell ⟨w.heap.size, 3, none⟩ (.int .i64 dt)).drew)) :=
    (HB2.out.trans (((((Kept.refl (fun b => b = w.heap.size) W).setCell (p := ⟨w.heap.size, 0, none⟩) (.inl rfl) _).setCell (p := ⟨w.heap.size, 1, none⟩) (.inl rfl) _).setCell (p := ⟨w.heap.size, 2, none⟩) (.inl rfl) _).setCell (p := ⟨w.heap.size, 3, none⟩) (.inl rfl) _ |>.below (B := w.heap.size) (fun b hb => by omega) HB2.out.size)).drew
  go_region
  go_wp2_with fail
  have r0 := cell_of (o := 0) HW4.out rfl
  have r1 := cell_of (o := 1) HW4.out rfl
  have r2 := cell_of (o := 2) HW4.out rfl
  have r3 := cell_of (o := 3) HW4.out rfl
  refine bodyPost_ret (v := .tuple #[statV 1 dl dk dt, .nilIface]) ?_ rfl ⟨?_, HB4.out⟩
  · generalize ((((W.setCell ⟨w.heap.size, 0, none⟩ (.int .i64 1)).setCell ⟨w.heap.size, 1, none⟩ (.int .i64 dl)).setCell ⟨w.heap.size, 2, none⟩ (.int .i64 dk)).setCell ⟨w.heap.size, 3, none⟩ (.int .i64 dt)).drew = W4 at *
    simp [results, Tryz.results16, go_sem, r0, r1, r2, r3, statV]
  · rw [HDL.out, HDK.out, HDT.out]
end
end Go.Proofs.YtjhojohjegkinaaGreatDoor
