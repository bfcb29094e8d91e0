/-
  (*Tree).Write of a file that is new, and of one that is there; a tree of one file.
-/
import Derived.Test.YtiejfbkbjahcgaaGreatDoorAwake
import Derived.Test.YtiejfbkbjahcgaaGreatDoorPutO
namespace Go.Proofs.YtiejfbkbjahcgaaGreatDoor
open Go Go.RowKit

theorem Ctx.raise {E : Nat → Addr} {B : Nat} {w : World} (h : Ctx E B w) : Ctx E w.heap.size w :=
  ⟨⟨Nat.le_refl _, fun c h1 h2 => ⟨Nat.lt_of_lt_of_le (h.env.room c h1 h2).1 h.env.size, Nat.lt_of_lt_of_le (h.env.room c h1 h2).2 h.env.size⟩, h.env.glob, h.env.unlike, h.env.body⟩, h.max, Nat.lt_of_lt_of_le h.maxB h.env.size⟩

/-- What Write leaves where it makes a file. -/
def WNew (B : Nat) (w : World) (T : Tr) (i : Nat) (di : Nd) (nm : ByteArray) (b : List UInt8) (e : Ending) (w' : World) : Prop :=
  ∃ k bv, e = .returned .nilIface ∧ w.heap.size ≤ k ∧ Rep B w' (T.newFile i di nm k bv b) ∧ Kept T.foot w w' ∧ (∀ x, (T.newFile i di nm k bv b).foot x → T.foot x ∨ w.heap.size ≤ x)
/-- .. where it writes one that is there. -/
def WOld (B : Nat) (w : World) (T : Tr) (k : Nat) (d : Nd) (b : List UInt8) (e : Ending) (w' : World) : Prop :=
  ∃ bv, e = .returned .nilIface ∧ Rep B w' (T.setData k d bv b) ∧ Kept T.foot w w' ∧ (∀ x, (T.setData k d bv b).foot x → T.foot x ∨ w.heap.size ≤ x)

set_option maxRecDepth 100000 in
set_option maxHeartbeats 1000000 in
theorem write_new {E : Nat → Addr} {B : Nat} {T : Tr} (p : ByteArray) (bv : Value) (b : List UInt8) (add : Bool) (w : World) (hE : Ctx E B w) (hR : Rep B w T) (hsz : p.size ≤ 9223372036854775807) (s : Spot) (hf : T.find p = .ok s)
    (hk : s.n = none) (hfull : T.count < 200) (hcnt : 0 ≤ T.count) (hck0 : 0 ≤ T.clock) (hck : T.clock ≤ 1152921504606846976) (hb : Src w bv b) (hbf : 0 < b.length → ∀ x, bv.ownBlock = some x → ¬ T.foot x) (hbl : b.length ≤ 65536)
    (i : Nat) (di : Nd) (hi : s.inn = some i) (hdi : T.nd i = some di) (hdir : di.dir = true) (hlk : look di.names s.name = none) :
    Calls Tryz.prog 20 #[.pointer (some ⟨T.tb, 0, none⟩), .string p, bv, .bool add] w fun e w' => WNew B w T i di s.name b e w' := by
  have HP := Lib.hid (put_new0 p bv b add w hE hR hsz s hf hk hfull hcnt hck0 hck hb hbf hbl i di hi hdi hdir hlk)
  clear hE hR hsz hf hk hfull hcnt hck0 hck hb hbf hbl hi hdi hdir hlk
  go_enter Tryz.func20, Tryz.ntmps20
  go_wp2_with fail
  refine HP.out.mono ?_
  intro e w1 hp
  obtain ⟨k, bv', rfl, h1, h2, h3, h4⟩ := hp
  have HX : Hid (WNew B w T i di s.name b (.returned .nilIface) w1) := ⟨k, bv', rfl, h1, h2, h3, h4⟩
  clear h1 h2 h3 h4
  go_wp2_with fail
  go_ret
  exact HX.out

set_option maxRecDepth 100000 in
set_option maxHeartbeats 1000000 in
theorem write_old {E : Nat → Addr} {B : Nat} {T : Tr} (p : ByteArray) (bv : Value) (b : List UInt8) (add : Bool) (w : World) (hE : Ctx E B w) (hR : Rep B w T) (hsz : p.size ≤ 9223372036854775807) (s : Spot) (hf : T.find p = .ok s)
    (hck0 : 0 ≤ T.clock) (hck : T.clock ≤ 1152921504606846976) (hb : Src w bv b) (hbf : 0 < b.length → ∀ x, bv.ownBlock = some x → ¬ T.foot x)
    (k : Nat) (d : Nd) (hk : s.n = some k) (hd : T.nd k = some d) (hdir : d.dir = false) (hdl : d.data.length ≤ 65536) (old : Nat) (hold : old = if add then d.data.length else 0) (hbl : old + b.length ≤ 65536) :
    Calls Tryz.prog 20 #[.pointer (some ⟨T.tb, 0, none⟩), .string p, bv, .bool add] w fun e w' => WOld B w T k d (d.data.take old ++ b) e w' := by
  have HP := Lib.hid (put_old0 p bv b add w hE hR hsz s hf hck0 hck hb hbf k d hk hd hdir hdl old hold hbl)
  clear hE hR hsz hf hk hck0 hck hb hbf hbl hd hdir hdl hold
  go_enter Tryz.func20, Tryz.ntmps20
  go_wp2_with fail
  refine HP.out.mono ?_
  intro e w1 hp
  obtain ⟨bv', rfl, h2, h3, h4⟩ := hp
  have HX : Hid (WOld B w T k d (d.data.take old ++ b) (.returned .nilIface) w1) := ⟨bv', rfl, h2, h3, h4⟩
  clear h2 h3 h4
  go_wp2_with fail
  go_ret
  exact HX.out

theorem find_one (tb root mb : Nat) {nm : ByteArray} (hc : clean nm = some [nm]) : (newTr tb root mb).find nm = .ok ⟨some root, nm, none⟩ := by
  unfold Tr.find
  rw [hc]
  show (newTr tb root mb).parts [nm] = _
  refine Tr.parts_some ?_
  unfold Tr.start
  exact (Tr.goTo_cons_dir (T := newTr tb root mb) (newTr_root tb root mb) rfl none ByteArray.empty nm []).trans rfl

/-- A tree of one file. -/
structure TF (B : Nat) (w : World) (T : Tr) (nm : ByteArray) (k : Nat) (l : List UInt8) (n : Nat) : Prop where
  rep : Rep B w T
  clock : T.clock = n
  root : ∃ rd, T.nd T.root = some rd ∧ rd.dir = true ∧ rd.names = [(nm, k)]
  node : ∃ d, T.nd k = some d ∧ d.dir = false ∧ d.data = l ∧ d.links = 1 ∧ d.tick = n

theorem TF.find {B : Nat} {w : World} {T : Tr} {nm : ByteArray} {k n : Nat} {l : List UInt8} (h : TF B w T nm k l n) (hc : clean nm = some [nm]) : T.find nm = .ok ⟨some T.root, nm, some k⟩ := by
  obtain ⟨rd, h1, h2, h3⟩ := h.root
  unfold Tr.find
  rw [hc]
  show T.parts [nm] = _
  refine Tr.parts_some ?_
  unfold Tr.start
  refine (Tr.goTo_cons_dir h1 h2 none ByteArray.empty nm []).trans ?_
  have hb : (nm == nm) = true := (MapKept.bytes_beq nm nm).2 rfl
  rw [h3]
  simp [look, hb, Tr.goTo]

/-- What the first Write of a new tree leaves. -/
def TF1 (B : Nat) (w : World) (T : Tr) (nm : ByteArray) (b : List UInt8) (n : Nat) (e : Ending) (w' : World) : Prop :=
  e = .returned .nilIface ∧ ∃ T' k, T'.tb = T.tb ∧ TF B w' T' nm k b n ∧ Kept T.foot w w' ∧ (∀ x, T'.foot x → T.foot x ∨ w.heap.size ≤ x)

theorem write_first {E : Nat → Addr} {B : Nat} {tb root mb : Nat} (nm : ByteArray) (hc : clean nm = some [nm]) (hsz : nm.size ≤ 9223372036854775807) (bv : Value) (b : List UInt8) (add : Bool) (w : World) (hE : Ctx E B w) (hR : Rep B w (newTr tb root mb)) (hb : Src w bv b) (hbf : 0 < b.length → ∀ x, bv.ownBlock = some x → ¬ (newTr tb root mb).foot x) (hbl : b.length ≤ 65536) :
    Calls Tryz.prog 20 #[.pointer (some ⟨tb, 0, none⟩), .string nm, bv, .bool add] w fun e w' => TF1 B w (newTr tb root mb) nm b 1 e w' := by
  refine (write_new (T := newTr tb root mb) nm bv b add w hE hR hsz ⟨some root, nm, none⟩ (find_one tb root mb hc) rfl (by show (1 : Int) < 200; decide) (by show (0 : Int) ≤ 1; decide) (Int.le_refl 0) (by show (0 : Int) ≤ _; decide) hb hbf hbl root _ rfl (newTr_root tb root mb) rfl rfl).mono ?_
  rintro e w' ⟨k, bv', rfl, hk, h2, h3, h4⟩
  have hrk : root ≠ k := fun he => by
    have h1 := hR.node_lt (n := root) (newTr_root tb root mb)
    omega
  exact ⟨rfl, (newTr tb root mb).newFile root { dir := true, bv := .slice none 0 0, data := [], names := [], mb := mb, links := 0, tick := 0 } nm k bv' b, k, rfl, ⟨h2, rfl, ⟨_, newFile_i _ _ _ _ _ hrk, rfl, rfl⟩, ⟨_, newFile_k _ _ _ _ _ _ _, rfl, rfl, rfl, rfl⟩⟩, h3, h4⟩

theorem write_more {E : Nat → Addr} {B : Nat} {T : Tr} {k n : Nat} {l : List UInt8} (nm : ByteArray) (hc : clean nm = some [nm]) (hsz : nm.size ≤ 9223372036854775807) (bv : Value) (b : List UInt8) (w : World) (hE : Ctx E B w) (h : TF B w T nm k l n) (hn : n ≤ 1000) (hb : Src w bv b) (hbf : 0 < b.length → ∀ x, bv.ownBlock = some x → ¬ T.foot x) (hbl : l.length + b.length ≤ 65536) :
    Calls Tryz.prog 20 #[.pointer (some ⟨T.tb, 0, none⟩), .string nm, bv, .bool true] w fun e w' => TF1 B w T nm (l ++ b) (n + 1) e w' := by
  obtain ⟨d, hd, hdir, hdl, hlk, htk⟩ := h.node
  have hck := h.clock
  subst hdl
  refine (write_old nm bv b true w hE h.rep hsz _ (h.find hc) (by omega) (by omega) hb hbf k d rfl hd hdir (by omega) d.data.length rfl hbl).mono ?_
  rintro e w' ⟨bv', rfl, h2, h3, h4⟩
  rw [List.take_length] at h2 h4
  have hrk : T.root ≠ k := fun he => by
    obtain ⟨rd, q1, q2, _⟩ := h.root
    rw [he, hd] at q1
    obtain rfl := Option.some.inj q1
    rw [hdir] at q2
    cases q2
  refine ⟨rfl, T.setData k d bv' (d.data ++ b), k, rfl, ⟨h2, ?_, ?_, ?_⟩, h3, h4⟩
  · show T.clock + 1 = _
    rw [hck]
    omega
  · obtain ⟨rd, q1, q2, q3⟩ := h.root
    exact ⟨rd, (set_other _ _ hrk).trans q1, q2, q3⟩
  · refine ⟨_, set_k _ _ _, hdir, rfl, hlk, ?_⟩
    show T.clock + 1 = _
    rw [hck]
    omega
end Go.Proofs.YtiejfbkbjahcgaaGreatDoor
