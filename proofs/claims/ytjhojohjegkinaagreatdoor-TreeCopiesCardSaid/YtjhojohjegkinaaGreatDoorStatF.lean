/-
  (*Tree).Write of a file that is new, and of one that is there; a tree of one file.
  (*Tree).Stat of a file.
-/
import Derived.Test.YtjhojohjegkinaaGreatDoorAwA
import Derived.Test.YtjhojohjegkinaaGreatDoorPutA
import Derived.BigRegion
namespace Go.Proofs.YtjhojohjegkinaaGreatDoor
open Go Go.RowKit

section
theorem Ctx.raise {E : Nat → Addr} {B : Nat} {w : World} (h : Ctx E B w) : Ctx E w.heap.size w :=
  ⟨⟨Nat.le_refl _, fun c h1 h2 => ⟨Nat.lt_of_lt_of_le (h.env.room c h1 h2).1 h.env.size, Nat.lt_of_lt_of_le (h.env.room c h1 h2).2 h.env.size⟩, h.env.glob, h.env.unlike, h.env.body⟩, h.max, Nat.lt_of_lt_of_le h.maxB h.env.size⟩

/-- What Write leaves where it makes a file. -/
def WNew (B : Nat) (w : World) (T : Tr) (i : Nat) (di : Nd) (nm : ByteArray) (b : List UInt8) (e : Ending) (w' : World) : Prop :=
  ∃ k bv, e = .returned .nilIface ∧ w.heap.size ≤ k ∧ Rep B w' (T.newFile i di nm k bv b) ∧ Kept T.foot w w' ∧ (∀ x, (T.newFile i di nm k bv b).foot x → T.foot x ∨ w.heap.size ≤ x)
/-- .. where it writes one that is there. -/
def WOld (B : Nat) (w : World) (T : Tr) (k : Nat) (d : Nd) (b : List UInt8) (e : Ending) (w' : World) : Prop :=
  ∃ bv, e = .returned .nilIface ∧ Rep B w' (T.setData k d bv b) ∧ Kept T.foot w w' ∧ (∀ x, (T.setData k d bv b).foot x → T.foot x ∨ w.heap.size ≤ x)

set_option maxRecDepth 100000 in
set_option maxHeartbeats 1000000 in
theorem write_new {E : Nat → Addr} {B : Nat} {T : Tr} (p : ByteArray) (bv : Value) (b : List UInt8) (add : Bool) (w : World) (hE : Ctx E B w) (hR : Rep B w T) (hsz : p.size ≤ 9223372036854775807) (s : Spot) (hf : T.find p = .ok s)
    (hk : s.n = none) (hfull : T.count < 200) (hcnt : 0 ≤ T.count) (hck0 : 0 ≤ T.clock) (hck : T.clock ≤ 1152921504606846976) (hb : Src w bv b) (hbf : 0 < b.length → ∀ x, bv.ownBlock = some x → ¬ T.foot x) (hbl : b.length ≤ 65536)
    (i : Nat) (di : Nd) (hi : s.inn = some i) (hdi : T.nd i = some di) (hdir : di.dir = true) (hlk : look di.names s.name = none) :
    Calls Tryz.prog 18 #[.pointer (some ⟨T.tb, 0, none⟩), .string p, bv, .bool add] w fun e w' => WNew B w T i di s.name b e w' := by
  have HP := Lib.hid (put_new0 p bv b add w hE hR hsz s hf hk hfull hcnt hck0 hck hb hbf hbl i di hi hdi hdir hlk)
  clear hE hR hsz hf hk hfull hcnt hck0 hck hb hbf hbl hi hdi hdir hlk
  go_enter Tryz.func18, Tryz.ntmps18
  go_wp2_with fail
  refine HP.out.mono ?_
  intro e w1 hp
  obtain ⟨k, bv', rfl, h1, h2, h3, h4⟩ := hp
  have HX : Hid (WNew B w T i di s.name b (.returned .nilIface) w1) := ⟨k, bv', rfl, h1, h2, h3, h4⟩
  clear h1 h2 h3 h4
  go_wp2_with fail
  go_ret
  exact HX.out

set_option maxRecDepth 100000 in
set_option maxHeartbeats 1000000 in
theorem write_old {E : Nat → Addr} {B : Nat} {T : Tr} (p : ByteArray) (bv : Value) (b : List UInt8) (add : Bool) (w : World) (hE : Ctx E B w) (hR : Rep B w T) (hsz : p.size ≤ 9223372036854775807) (s : Spot) (hf : T.find p = .ok s)
    (hck0 : 0 ≤ T.clock) (hck : T.clock ≤ 1152921504606846976) (hb : Src w bv b) (hbf : 0 < b.length → ∀ x, bv.ownBlock = some x → ¬ T.foot x)
    (k : Nat) (d : Nd) (hk : s.n = some k) (hd : T.nd k = some d) (hdir : d.dir = false) (hdl : d.data.length ≤ 65536) (old : Nat) (hold : old = if add then d.data.length else 0) (hbl : old + b.length ≤ 65536) :
    Calls Tryz.prog 18 #[.pointer (some ⟨T.tb, 0, none⟩), .string p, bv, .bool add] w fun e w' => WOld B w T k d (d.data.take old ++ b) e w' := by
  have HP := Lib.hid (put_old0 p bv b add w hE hR hsz s hf hck0 hck hb hbf k d hk hd hdir hdl old hold hbl)
  clear hE hR hsz hf hk hck0 hck hb hbf hbl hd hdir hdl hold
  go_enter Tryz.func18, Tryz.ntmps18
  go_wp2_with fail
  refine HP.out.mono ?_
  intro e w1 hp
  obtain ⟨bv', rfl, h2, h3, h4⟩ := hp
  have HX : Hid (WOld B w T k d (d.data.take old ++ b) (.returned .nilIface) w1) := ⟨bv', rfl, h2, h3, h4⟩
  clear h2 h3 h4
  go_wp2_with fail
  go_ret
  exact HX.out

theorem find_one (tb root mb : Nat) {nm : ByteArray} (hc : clean nm = some [nm]) : (newTr tb root mb).find nm = .ok ⟨some root, nm, none⟩ := by
  unfold Tr.find
  rw [hc]
  show (newTr tb root mb).parts [nm] = _
  refine Tr.parts_some ?_
  unfold Tr.start
  exact (Tr.goTo_cons_dir (T := newTr tb root mb) (newTr_root tb root mb) rfl none ByteArray.empty nm []).trans rfl





end

section

end
end Go.Proofs.YtjhojohjegkinaaGreatDoor
