/-
 The program's calls as the laws make them: of any call its code, or the tree behind it.
 The program's Open to write or to add; the law's do: one call of the program's tree.
 The program's call and the document's, of trees that are alike, leave trees that are alike and tell the same code.
-/
import Derived.Test.YteeeaeiafdgpkaaGreatDoorCallA
import Derived.Test.YteeeaeiafdgpkaaGreatDoorKFileB
import Derived.Test.YteeeaeiafdgpkaaGreatDoorStatF
import Derived.Test.YteeeaeiafdgpkaaGreatDoorRefC
namespace Go.Proofs.YteeeaeiafdgpkaaGreatDoor
open Go Go.RowKit
open Go.Lib (hid)
section
def Tr.cMkdir (T : Tr) (s : ByteArray) : Nat := match T.find s with
 | .error c => c
 | .ok sp => match sp.n with
  | some _ => 18
  | none => if 200 ≤ T.count then 19 else 0
def Tr.cWrite (T : Tr) (s : ByteArray) (b : List UInt8) (add : Bool) : Nat := match T.find s with
 | .error c => c
 | .ok sp => match sp.n with
  | none => if 200 ≤ T.count ∨ 65536 < b.length then 19 else 0
  | some k => match T.nd k with
   | none => 0
   | some d => if d.dir = true then 17 else if 65536 < (zcs d.data add b).length then 19 else 0
def Tr.cRemove (T : Tr) (s : ByteArray) : Nat := match T.find s with
 | .error c => c
 | .ok sp => match sp.n with
  | none => 16
  | some k => match sp.inn with
   | none => 17
   | some _ => match T.nd k with
    | none => 0
    | some d => if d.dir = true ∧ d.names ≠ [] then 17 else 0
def Tr.cLink (T : Tr) (old s : ByteArray) : Nat := match T.fileOf old with
 | .error c => c
 | .ok _ => match T.find s with
  | .error c => c
  | .ok sp => match sp.n with
   | some _ => 18
   | none => 0
theorem find_err {T : Tr} {s : ByteArray} {c : Nat} (h : T.find s = .error c) : (c = 15 ∧ zbh s = none) ∨ ∃ dp nm, zbh s = some (dp ++ [nm]) ∧ c = 16 ∧ ¬ ∃ i d, T.at dp = some i ∧ T.nd i = some d ∧ d.dir = true := by
 unfold Tr.find at h
 cases hc : zbh s with
 | none => rw [hc] at h; cases h; exact .inl ⟨rfl, rfl⟩
 | some l =>
  rw [hc] at h
  have h : T.parts l = .error c := h
  rcases zb3 l with rfl | ⟨dp, nm, rfl⟩
  ·rw [Tr.parts_root] at h; cases h
  ·refine .inr ⟨dp, nm, rfl, ?_, ?_⟩
   ·unfold Tr.parts at h
    split at h
    ·cases h; rfl
    ·cases h
   ·rintro ⟨i, d, h1, h2, h3⟩
    rw [Tr.parts_dir h1 h2 h3] at h
    cases h
theorem find_ok {T : Tr} {s : ByteArray} {sp : Spot} (h : T.find s = .ok sp) : ∃ l, zbh s = some l ∧ T.at l = sp.n ∧
  ((l = [] ∧ sp = T.start) ∨ ∃ dp i di, l = dp ++ [sp.name] ∧ sp.inn = some i ∧ T.at dp = some i ∧ T.nd i = some di ∧ di.dir = true ∧ sp.n = look di.names sp.name) := by
 unfold Tr.find at h
 cases hc : zbh s with
 | none => rw [hc] at h; cases h
 | some l =>
  rw [hc] at h
  have h : T.parts l = .ok sp := h
  have hg : T.goTo T.start l = some sp := by
   unfold Tr.parts at h
   split at h
   ·cases h
   ·rename_i s' hs'
    cases h
    exact hs'
  refine ⟨l, rfl, (Tr.goTo_at l sp hg).symm, ?_⟩
  rcases zb3 l with rfl | ⟨dp, nm, rfl⟩
  ·rw [Tr.parts_root] at h
   cases h
   exact .inl ⟨rfl, rfl⟩
  ·by_cases hd : ∃ i d, T.at dp = some i ∧ T.nd i = some d ∧ d.dir = true
   ·obtain ⟨i, d, h1, h2, h3⟩ := hd
    rw [Tr.parts_dir h1 h2 h3] at h
    cases h
    exact .inr ⟨dp, i, d, rfl, rfl, h1, h2, h3, rfl⟩
   ·rw [Tr.parts_bad (fun i d h1 h2 => by
     cases h3 : d.dir with
     | false => rfl
     | true => exact absurd ⟨i, d, h1, h2, h3⟩ hd)] at h
    cases h
theorem zdj {T : Tr} {s : ByteArray} {c : Nat} (h : T.find s = .error c) : c = 15 ∨ c = 16 := by
 rcases find_err h with ⟨h, _⟩ | ⟨_, _, _, h, _⟩
 ·exact .inl h
 ·exact .inr h
structure TI (T : Tr) : Prop where
 tw : TW T
 dirs : ∀ n d, T.nd n = some d → d.dir = true → (∃ l, T.at l = some n) ∧ d.links = 0
 data : ∀ n d, T.nd n = some d → d.data.length ≤ 65536
 num : ∀ n d, T.nd n = some d → 0 ≤ d.tick ∧ d.tick ≤ T.clock ∧ (d.names.length : Int) ≤ T.clock
structure TNum (T : Tr) : Prop where
 clk0 : 0 ≤ T.clock
 clk1 : T.clock ≤ 1152921504606846976
 cnt0 : 0 ≤ T.count
 cnt1 : T.count ≤ 1152921504606846976
 lk0 : ∀ n d, T.nd n = some d → d.dir = false → 0 ≤ d.links
 lk1 : ∀ n d, T.nd n = some d → d.dir = false → d.links ≤ 1152921504606846976
def PGrown (T T' : Tr) (s : ByteArray) (dir : Bool) (data : List UInt8) : Prop :=
 ∃ dp nm i k di dk, zbh s = some (dp ++ [nm]) ∧ T.at dp = some i ∧ T.nd i = some di ∧ di.dir = true ∧ look di.names nm = none ∧ T.nd k = none ∧ Grown T T' i k di dk nm ∧ dk.dir = dir ∧ dk.data = data ∧ dk.links = if dir then 0 else 1
def PTurned (T T' : Tr) (s : ByteArray) (b : List UInt8) (add : Bool) : Prop :=
 ∃ l k d, zbh s = some l ∧ T.at l = some k ∧ T.nd k = some d ∧ d.dir = false ∧ (zcs d.data add b).length ≤ 65536 ∧ Turned T T' k d (zcs d.data add b)
def zdq (T T' : Tr) (s : ByteArray) (b : List UInt8) (add : Bool) : Prop := (PGrown T T' s false b ∧ b.length ≤ 65536) ∨ PTurned T T' s b add
def zds (T T' : Tr) (s : ByteArray) : Prop :=
 ∃ dp nm i k di dk, zbh s = some (dp ++ [nm]) ∧ T.at dp = some i ∧ T.nd i = some di ∧ di.dir = true ∧ look di.names nm = some k ∧ T.nd k = some dk ∧ dk.names = [] ∧
  (dk.dir = true → ∀ n d s', T.nd n = some d → (s', k) ∈ d.names → n = i ∧ s' = nm) ∧ Pruned T T' i k di dk nm
def TAns (E : Nat → Addr) (B : Nat) (w : World) (T : Tr) (c : Nat) (P : Tr → Prop) (e : Ending) (w' : World) : Prop :=
 (c ≠ 0 ∧ TErr E w c e w') ∨ (c = 0 ∧ e = .returned .nilIface ∧ ∃ T', Rep B w' T' ∧ Kept T.foot w w' ∧ (∀ x, T'.foot x → T.foot x ∨ w.heap.size ≤ x) ∧ T'.tb = T.tb ∧ P T')
theorem newFile_grown {T : Tr} {i k : Nat} {di : Nd} {nm : ByteArray} (bv : Value) (b : List UInt8) (hik : i ≠ k) : Grown T (T.newFile i di nm k bv b) i k di { dir := false, bv := bv, data := b, names := [], mb := 0, links := 1, tick := T.clock + 1 } nm :=
 ⟨rfl, rfl, rfl, zdw _ _ _ _ _ _ _, rfl, rfl, fun _ => rfl, zfn _ _ _ _ _ hik, fun _ h h' => zcp _ _ _ _ _ h h'⟩
theorem Rep.no_node {B : Nat} {w : World} {T : Tr} (hR : Rep B w T) {k : Nat} (hk : w.heap.size ≤ k) : T.nd k = none := by
 cases h : T.nd k with
 | none => rfl
 | some d => have := hR.node_lt h; omega
theorem zc0 {T : Tr} {k : Nat} {d : Nd} (bv : Value) (b : List UInt8) : Turned T (T.setData k d bv b) k d b :=
 ⟨rfl, rfl, Int.add_zero _, ⟨bv, if_pos rfl⟩, fun _ h => if_neg h⟩
theorem pruned_pruned {T : Tr} {i k : Nat} {di dk : Nd} {nm : ByteArray} (hik : i ≠ k) : Pruned T (T.pruned i di nm k dk) i k di dk nm :=
 ⟨rfl, rfl, rfl, fun h => (if_pos rfl).trans (if_pos h), fun h => (if_pos rfl).trans (if_neg (by rw [h]; decide)), (if_neg hik).trans (if_pos rfl), fun _ h1 h2 => (if_neg h2).trans (if_neg h1)⟩
theorem put_no_any {E : Nat → Addr} {B : Nat} {T : Tr} (p : ByteArray) (bv : Value) (b : List UInt8) (add : Bool) (w : World) (hE : Ctx E B w) (hR : Rep B w T) (hI : TI T) (hsz : p.size ≤ 9223372036854775807) (hs : Src w bv b) (hc : T.cWrite p b add ≠ 0) :
  Calls Tryz.prog 79 #[.pointer (some ⟨T.tb, 0, none⟩), .string p, bv, .bool add] w fun e w' => zc5 E w (T.cWrite p b add) e w' := by
 have hbv : ∃ ba bc, bv = .slice ba b.length bc := by
  rcases hs with ⟨h1, h2⟩ | ⟨ad, c, h1, _⟩
  ·exact ⟨none, 0, by rw [h1, h2]; rfl⟩
  ·exact ⟨_, _, h1⟩
 obtain ⟨ba, bc, rfl⟩ := hbv
 revert hc
 unfold Tr.cWrite
 cases hf : T.find p with
 | error c => intro _; exact put_err p _ add w hE hR hsz c hf
 | ok sp =>
  obtain ⟨l, hcl, hat, hform⟩ := find_ok hf
  dsimp only
  cases hn : sp.n with
  | none =>
   dsimp only
   intro hc
   by_cases h2 : 200 ≤ T.count ∨ 65536 < b.length
   ·rw [if_pos h2]
    by_cases h3 : 200 ≤ T.count
    ·exact put_full p _ add w hE hR hsz sp hf hn h3
    ·exact put_great p ba b.length bc add w hE hR hsz sp hf hn (by omega) (by rcases h2 with h | h; exact absurd h h3; exact h)
   ·rw [if_neg h2] at hc; exact absurd rfl hc
  | some k =>
   dsimp only
   cases hd : T.nd k with
   | none => intro hc; exact absurd rfl hc
   | some d =>
    dsimp only
    by_cases hdir : d.dir = true
    ·intro _; rw [if_pos hdir]; exact put_dir p _ add w hE hR hsz sp hf k d hn hd hdir
    ·rw [if_neg hdir]
     have hdir : d.dir = false := by simpa using hdir
     by_cases hg : 65536 < (zcs d.data add b).length
     ·intro _
      rw [if_pos hg]
      refine put_great2 p ba b.length bc add w hE hR hsz sp hf k d hn hd hdir (hI.data k d hd) ?_
      cases add <;> simpa [zcs] using hg
     ·rw [if_neg hg]; intro hc; exact absurd rfl hc
theorem TI.one {T : Tr} (hI : TI T) {dp : List ByteArray} {nm : ByteArray} {i k : Nat} {di dk : Nd} (hdp : T.at dp = some i) (hdi : T.nd i = some di) (hdir : di.dir = true) (hlk : look di.names nm = some k) (hdk : T.nd k = some dk) (hkd : dk.dir = true) :
  ∀ n d s', T.nd n = some d → (s', k) ∈ d.names → n = i ∧ s' = nm := by
 intro n d s' hn hm
 have hnd : d.dir = true := by
  cases h : d.dir with
  | true => rfl
  | false => rw [hI.tw.file n d hn h] at hm; cases hm
 obtain ⟨m, hat⟩ := (hI.dirs n d hn hnd).1
 have h1 : T.at (m ++ [s']) = some k := by
  rw [Tr.at_snoc, hat]
  show T.hop n s' = _
  rw [Tr.hop_dir hn hnd, zdg (hI.tw.keys n d hn) hm]
 have h2 := hI.tw.dir_one hdp hdi hdir hlk hdk hkd h1
 obtain ⟨rfl, rfl⟩ := zcz h2
 rw [hdp] at hat
 exact ⟨(Option.some.inj hat).symm, rfl⟩
theorem TW.off_root {T : Tr} (hT : TW T) {dp : List ByteArray} {nm : ByteArray} {i k : Nat} {di dk : Nd} (hdp : T.at dp = some i) (hdi : T.nd i = some di) (hdir : di.dir = true) (hlk : look di.names nm = some k) (hdk : T.nd k = some dk) : T.root ≠ k := fun e => by
 obtain ⟨d, hd, hrd⟩ := hT.root
 rw [e, hdk] at hd
 cases hd
 have h1 : T.at [] = some k := by show some T.root = some k; rw [e]
 have h2 := hT.dir_one hdp hdi hdir hlk hdk hrd h1
 cases dp <;> cases h2
theorem remove_any {E : Nat → Addr} {B : Nat} {T : Tr} (p : ByteArray) (w : World) (hE : Ctx E B w) (hR : Rep B w T) (hI : TI T) (hN : TNum T) (hsz : p.size ≤ 9223372036854775807) :
  Calls Tryz.prog 29 #[.pointer (some ⟨T.tb, 0, none⟩), .string p] w fun e w' => TAns E B w T (T.cRemove p) (fun T' => zds T T' p) e w' := by
 unfold Tr.cRemove
 cases hf : T.find p with
 | error c => exact (remove_err p w hE hR hsz c hf).mono (fun e w' h => .inl ⟨by rcases zdj hf with h | h <;> simp only [h] <;> decide, h⟩)
 | ok sp =>
  obtain ⟨l, hcl, hat, hform⟩ := find_ok hf
  dsimp only
  cases hn : sp.n with
  | none => exact (remove_none p w hE hR hsz sp hf hn).mono (fun e w' h => .inl ⟨(by decide : (16 : Nat) ≠ 0), h⟩)
  | some k =>
   dsimp only
   rcases hform with ⟨rfl, rfl⟩ | ⟨dp, i, di, rfl, hin, hdp, hdi, hdir, hlk⟩
   ·exact (remove_root p w hE hR hsz _ hf rfl k hn).mono (fun e w' h => .inl ⟨(by decide : (17 : Nat) ≠ 0), h⟩)
   ·rw [hin]
    dsimp only
    obtain ⟨dk, hdk⟩ := hI.tw.there (hat.trans hn)
    rw [hdk]
    dsimp only
    rw [hn] at hlk
    have hlk := hlk.symm
    by_cases hful : dk.dir = true ∧ dk.names ≠ []
    ·rw [if_pos hful]
     exact (remove_full p w hE hR hsz sp hf i hin k hn dk hdk hful.1 hful.2).mono (fun e w' h => .inl ⟨(by decide : (17 : Nat) ≠ 0), h⟩)
    ·rw [if_neg hful]
     have hik := hI.tw.apart hdp hdi hdir hlk
     have hrt := hI.tw.off_root hdp hdi hdir hlk hdk
     have hbare : dk.names = [] := by
      cases h : dk.dir with
      | false => exact hI.tw.file k dk hdk h
      | true => exact Classical.byContradiction fun h2 => hful ⟨h, h2⟩
     have hone : dk.dir = true → ∀ n d s', T.nd n = some d → (s', k) ∈ d.names → n = i ∧ s' = sp.name := fun h => hI.one hdp hdi hdir hlk hdk h
     have fin : ∀ e w', zcy B w T i di sp.name k dk e w' → TAns E B w T 0 (fun T' => zds T T' p) e w' := fun e w' h => by
      obtain ⟨he, hr, hkp, hft⟩ := h
      exact .inr ⟨rfl, he, _, hr, hkp, fun x hx => .inl (hft x hx), rfl, dp, sp.name, i, k, di, dk, hcl, hdp, hdi, hdir, hlk, hdk, hbare, hone, pruned_pruned hik⟩
     cases hkd : dk.dir with
     | true => exact (remove_dir p w hE hR hsz hN.clk0 hN.clk1 sp hf i k hin hn di dk hdi hdir hdk hkd hbare hlk (by rw [(hI.dirs k dk hdk hkd).2]; decide) (by rw [(hI.dirs k dk hdk hkd).2]; decide) hN.cnt0 hN.cnt1 hik hrt hone).mono fin
     | false =>
      by_cases hl1 : dk.links = 1
      ·exact (remove_one p w hE hR hsz hN.clk0 hN.clk1 sp hf i k hin hn di dk hdi hdir hdk hkd hlk hl1 hN.cnt0 hN.cnt1 hik hrt).mono fin
      ·exact (remove_more p w hE hR hsz hN.clk0 hN.clk1 sp hf i k hin hn di dk hdi hdir hdk hkd hlk (hN.lk0 k dk hdk hkd) (hN.lk1 k dk hdk hkd) hl1 hik hrt).mono fin
theorem fileOf_err {T : Tr} {s : ByteArray} {c : Nat} (h : T.fileOf s = .error c) : c = 15 ∨ c = 16 ∨ c = 17 := by
 unfold Tr.fileOf at h
 split at h
 ·rename_i c' hc'
  cases h
  rcases zdj hc' with h | h
  ·exact .inl h
  ·exact .inr (.inl h)
 ·split at h
  ·cases h; exact .inr (.inl rfl)
  ·split at h
   ·cases h; exact .inr (.inl rfl)
   ·split at h
    ·cases h; exact .inr (.inr rfl)
    ·cases h
end
section
def OAns (E : Nat → Addr) (B : Nat) (w : World) (T : Tr) (c : Nat) (P : Tr → Nat → Prop) (e : Ending) (w' : World) : Prop :=
 (c ≠ 0 ∧ zc5 E w c e w') ∨ (c = 0 ∧ ∃ f k T', e = .returned (.tuple #[.pointer (some ⟨f, 0, none⟩), .nilIface]) ∧ w.heap.size ≤ f ∧ zfx T.tb k w' f ∧ Rep B w' T' ∧ Kept T.foot w w' ∧ (∀ x, T'.foot x → (T.foot x ∨ w.heap.size ≤ x) ∧ x ≠ f) ∧ T'.tb = T.tb ∧ P T' k)
def Tr.leads (T : Tr) (s : ByteArray) (k : Nat) : Prop := ∃ l, zbh s = some l ∧ T.at l = some k
set_option maxRecDepth 100000 in
set_option maxHeartbeats 1000000 in
theorem open_no {E : Nat → Addr} {T : Tr} (p : ByteArray) (way : Int) (add : Bool) (hway : (way = 1 ∧ add = false) ∨ (way = 2 ∧ add = true)) (w : World) (c : Nat)
  (hp : Calls Tryz.prog 79 #[.pointer (some ⟨T.tb, 0, none⟩), .string p, .slice none 0 0, .bool add] w fun e w' => zc5 E w c e w') :
  Calls Tryz.prog 49 #[.pointer (some ⟨T.tb, 0, none⟩), .string p, .int .i64 way] w fun e w' => zc5 E w c e w' := by
 have HP := hid hp
 clear hp
 rcases hway with ⟨rfl, rfl⟩ | ⟨rfl, rfl⟩
 ·go_enter Tryz.func49, Tryz.ntmps49
  go_wp2_with fail
  refine HP.out.mono ?_
  rintro e w1 ⟨a, rfl, h1, h2⟩
  have HX : Hid (zc5 E w c (.returned (.tuple #[.pointer none, zcb a])) w1) := ⟨a, rfl, h1, h2⟩
  clear h1 h2
  go_wp2_with fail
  go_ret2
  exact HX.out
 ·go_enter Tryz.func49, Tryz.ntmps49
  go_wp2_with fail
  refine HP.out.mono ?_
  rintro e w1 ⟨a, rfl, h1, h2⟩
  have HX : Hid (zc5 E w c (.returned (.tuple #[.pointer none, zcb a])) w1) := ⟨a, rfl, h1, h2⟩
  clear h1 h2
  go_wp2_with fail
  go_ret2
  exact HX.out
theorem open_any {E : Nat → Addr} {B : Nat} {T : Tr} (p : ByteArray) (way : Int) (add : Bool) (hway : (way = 1 ∧ add = false) ∨ (way = 2 ∧ add = true)) (w : World) (hE : Ctx E B w) (hR : Rep B w T) (hI : TI T) (hN : TNum T) (hsz : p.size ≤ 9223372036854775807) :
  Calls Tryz.prog 49 #[.pointer (some ⟨T.tb, 0, none⟩), .string p, .int .i64 way] w fun e w' => OAns E B w T (T.cWrite p [] add) (fun T' k => zdq T T' p [] add ∧ T'.leads p k) e w' := by
 have hw12 : way = 1 ∨ way = 2 := hway.imp And.left And.left
 by_cases hc : T.cWrite p [] add = 0
 ·rw [hc]
  revert hc
  unfold Tr.cWrite
  cases hf : T.find p with
  | error c => intro h; rcases zdj hf with h' | h' <;> simp only [h'] at h <;> cases h
  | ok sp =>
   obtain ⟨l, hcl, hat, hform⟩ := find_ok hf
   dsimp only
   cases hn : sp.n with
   | none =>
    dsimp only
    intro hc
    have hno : ¬ (200 ≤ T.count ∨ 65536 < ([] : List UInt8).length) := fun h => by rw [if_pos h] at hc; cases hc
    rcases hform with ⟨rfl, rfl⟩ | ⟨dp, i, di, rfl, hin, hdp, hdi, hdir, hlk⟩
    ·cases hn
    ·rw [hn] at hlk
     refine (open_new p way hw12 w hE hR hsz sp hf hn (by omega) hN.cnt0 hN.clk0 hN.clk1 i di hin hdi hdir hlk.symm).mono (fun e w' h => ?_)
     obtain ⟨k, bv', f, he, hk, hfl, hof, hr, hkp, hft⟩ := h
     have hik : i ≠ k := fun e => by have := hR.node_lt hdi; omega
     have hg := newFile_grown (T := T) (di := di) (nm := sp.name) bv' ([] : List UInt8) hik
     exact .inr ⟨rfl, f, k, _, he, hfl, hof, hr, hkp, hft, rfl, .inl ⟨⟨dp, sp.name, i, k, di, _, hcl, hdp, hdi, hdir, hlk.symm, hR.no_node hk, hg, rfl, rfl, rfl⟩, Nat.zero_le _⟩, _, hcl, (hg.at hI.tw hdp hdi hdir hlk.symm (hR.no_node hk) _).trans (if_pos rfl)⟩
   | some k =>
    dsimp only
    obtain ⟨d, hd⟩ := hI.tw.there (hat.trans hn)
    rw [hd]
    dsimp only
    intro hc
    have hdir : d.dir = false := by
     cases h : d.dir with
     | false => rfl
     | true => rw [h, if_pos rfl] at hc; cases hc
    have hdl := hI.data k d hd
    have hwd : (if way = 2 then d.data else []) = zcs d.data add [] := by
     rcases hway with ⟨rfl, rfl⟩ | ⟨rfl, rfl⟩ <;> simp [zcs]
    have hwl : (zcs d.data add []).length ≤ 65536 := by cases add <;> simp [zcs] <;> omega
    refine (open_old p way hw12 w hE hR hsz sp hf hN.clk0 hN.clk1 k d hn hd hdir hdl).mono (fun e w' h => ?_)
    rw [hwd] at h
    obtain ⟨bv', f, he, hfl, hof, hr, hkp, hft⟩ := h
    have ht : Turned T (T.setData k d bv' (zcs d.data add [])) k d (zcs d.data add []) := zc0 bv' _
    exact .inr ⟨rfl, f, k, _, he, hfl, hof, hr, hkp, hft, rfl, .inr ⟨l, k, d, hcl, hat.trans hn, hd, hdir, hwl, ht⟩, l, hcl, (Tr.at_same ht.root (ht.sk hd) l).trans (hat.trans hn)⟩
 ·exact (open_no p way add hway w _ (put_no_any p _ [] add w hE hR hI hsz (Src.nil _) hc)).mono (fun e w' h => .inl ⟨hc, h⟩)
def Tr.code (T : Tr) (o : AOp) : Nat :=
 if o.act = 0 then T.cMkdir o.path else if o.act = 1 then T.cWrite o.path o.data false else if o.act = 2 then T.cWrite o.path o.data true else if o.act = 3 then T.cRemove o.path else
 if o.act = 4 then T.cLink o.path o.other else if o.act = 5 then T.cWrite o.path [] false else T.cWrite o.path [] true
end
section
theorem putS_ne : ∀ (l : List ByteArray) (s : ByteArray), putS l s ≠ []
 | [], s => by simp [putS]
 | x :: l, s => by
  rw [putS]
  split
  ·simp
  ·split <;> simp
theorem kids_fold : ∀ (L : List Ent) (p : List UInt8) (acc : List ByteArray), L.foldl (zdi p) acc = [] ↔ acc = [] ∧ ∀ e ∈ L, kidOf p e.1 = none
 | [], p, acc => by simp
 | e :: L, p, acc => by
  rw [List.foldl_cons, kids_fold L p]
  cases h : kidOf p e.1 with
  | none =>
   have h1 : zdi p acc e = acc := by unfold zdi; rw [h]
   rw [h1]
   simp [h]
  | some x =>
   have h1 : zdi p acc e = putS acc (mkB x) := by unfold zdi; rw [h]
   rw [h1]
   constructor
   ·rintro ⟨h2, _⟩; exact absurd h2 (putS_ne _ _)
   ·rintro ⟨_, h2⟩
    have := h2 e (List.mem_cons_self ..)
    rw [h] at this
    cases this
theorem kids_none (L : List Ent) (p : List UInt8) : zb0 L p = [] ↔ ∀ e ∈ L, kidOf p e.1 = none := by
 unfold zb0
 rw [kids_fold]
 simp
theorem kidOf_join {l m : List ByteArray} (hl : Pts l) (hm : Pts m) {x : List UInt8} : kidOf (zal l) (zal m) = some x ↔ ∃ nm, m = l ++ [nm] ∧ bl nm = x := by
 unfold kidOf
 constructor
 ·intro h
  split at h
  ·rename_i hc
   obtain ⟨h1, h2, h3⟩ := hc
   have hx := Option.some.inj h
   have h4 : zal m = zc4 (l.map bl ++ [x]) := by
    rw [zdx, ← List.take_append_drop ((zal l).length + 1) (zal m), h2, hx, List.append_assoc]
    rfl
   have h5 : m.map bl = l.map bl ++ [x] := by
    refine joinL_inj (fun p hp => ?_) (fun p hp => ?_) h4
    ·obtain ⟨y, hy, rfl⟩ := List.mem_map.1 hp; exact hm y hy
    ·rcases List.mem_append.1 hp with hp | hp
     ·obtain ⟨y, hy, rfl⟩ := List.mem_map.1 hp; exact hl y hy
     ·have : p = x := by simpa using hp
      subst this
      refine ⟨fun e => ?_, by rw [← hx]; exact h3⟩
      rw [← hx] at e
      have := congrArg List.length e
      rw [List.length_drop] at this
      simp at this
      omega
   rcases zb3 m with rfl | ⟨m', nm, rfl⟩
   ·have := congrArg List.length h5
    simp at this
   ·rw [List.map_append, List.map_singleton] at h5
    obtain ⟨h6, h7⟩ := zcz h5
    refine ⟨nm, ?_, h7⟩
    rw [show m' = l from ?_]
    have inj : ∀ (a b : List ByteArray), a.map bl = b.map bl → a = b := by
     intro a
     induction a with
     | nil => intro b hb; cases b with
      | nil => rfl
      | cons _ _ => cases hb
     | cons y a ih => intro b hb; cases b with
      | nil => cases hb
      | cons z b =>
       simp only [List.map_cons, List.cons.injEq] at hb
       rw [bl_inj hb.1, ih b hb.2]
    exact inj m' l h6
  ·cases h
 ·rintro ⟨nm, rfl, rfl⟩
  have hp := (Pts.snoc.1 hm).2
  have e : zal (l ++ [nm]) = zal l ++ 47 :: bl nm := by
   show zc4 ((l ++ [nm]).map bl) = zc4 (l.map bl) ++ 47 :: bl nm
   rw [List.map_append, List.map_singleton, zdx]
  have hlen : 0 < (bl nm).length := List.length_pos_iff.2 hp.1
  have hd : (zal (l ++ [nm])).drop ((zal l).length + 1) = bl nm := by
   rw [e, show zal l ++ 47 :: bl nm = (zal l ++ [47]) ++ bl nm by simp]
   exact List.drop_left' (by simp)
  have ht : (zal (l ++ [nm])).take ((zal l).length + 1) = zal l ++ [47] := by
   rw [e, show zal l ++ 47 :: bl nm = (zal l ++ [47]) ++ bl nm by simp]
   exact List.take_left' (by simp)
  rw [if_pos ⟨by rw [e]; simp; omega, ht, by rw [hd]; exact hp.2⟩, hd]
section
variable {T : Tr} {R : RT} {f : Nat → Nat} (hS : Sim T R f) (hT : TW T)
include hS hT
theorem Sim.find_good {s : ByteArray} {l : List ByteArray} (hc : zbh s = some l) (h : R.okDirs l) : ∃ sp, T.find s = .ok sp ∧ sp.n = T.at l ∧ (l = [] ↔ sp.inn = none) := by
 unfold Tr.find
 rw [hc]
 show ∃ sp, T.parts l = .ok sp ∧ _
 have hl := (zay hc).1
 rcases zb3 l with rfl | ⟨dp, nm, rfl⟩
 ·exact ⟨_, Tr.parts_root T, rfl, fun _ => rfl, fun _ => rfl⟩
 ·obtain ⟨i, d, h1, h2, h3⟩ := (hS.okDirs hT (Pts.snoc.1 hl).1).1 h
  refine ⟨_, Tr.parts_dir h1 h2 h3, ?_, fun h => absurd h (by simp), fun h => by cases h⟩
  rw [Tr.at_snoc, h1]
  show _ = T.hop i nm
  rw [Tr.hop_dir h2 h3]
theorem Sim.find_bad {s : ByteArray} {l : List ByteArray} (hc : zbh s = some l) (h : ¬ R.okDirs l) : T.find s = .error 16 := by
 unfold Tr.find
 rw [hc]
 show T.parts l = _
 have hl := (zay hc).1
 rcases zb3 l with rfl | ⟨dp, nm, rfl⟩
 ·exact absurd R.okDirs_nil h
 ·refine Tr.parts_bad (fun i d h1 h2 => ?_)
  cases h3 : d.dir with
  | false => rfl
  | true => exact absurd ((hS.okDirs hT (Pts.snoc.1 hl).1).2 ⟨i, d, h1, h2, h3⟩) h
omit hS hT in
theorem zel {s : ByteArray} (hc : zbh s = none) : T.find s = .error 15 := by
 unfold Tr.find
 rw [hc]
omit hT in
theorem Sim.at_none {l : List ByteArray} (hl : Pts l) : zaw R.L (zal l) = none ↔ T.at l = none := by
 rw [hS.leads l hl]
 cases T.at l <;> simp
theorem Sim.at_some {l : List ByteArray} (hl : Pts l) {m : Nat} {r : RNd} (h : zaw R.L (zal l) = some m) (hr : R.nd m = some r) : ∃ k d, T.at l = some k ∧ f k = m ∧ T.nd k = some d ∧ r.dir = d.dir ∧ r.data = d.data ∧ r.tick = d.tick := by
 rw [hS.leads l hl] at h
 cases hk : T.at l with
 | none => rw [hk] at h; cases h
 | some k =>
  rw [hk] at h
  have hm := Option.some.inj h
  obtain ⟨d, hd⟩ := hT.there hk
  obtain ⟨r', h1, h2, h3, h4⟩ := hS.node k d hd
  rw [hm, hr] at h1
  cases h1
  exact ⟨k, d, rfl, hm, hd, h2, h3, h4⟩
theorem Sim.kids_none {l : List ByteArray} (hl : Pts l) {k : Nat} {d : Nd} (hk : T.at l = some k) (hd : T.nd k = some d) (hdir : d.dir = true) : zb0 R.L (zal l) = [] ↔ d.names = [] := by
 rw [Go.Proofs.YteeeaeiafdgpkaaGreatDoor.kids_none]
 constructor
 ·intro h
  cases hn : d.names with
  | nil => rfl
  | cons p ns =>
   exfalso
   obtain ⟨s, q⟩ := p
   have hm : (s, q) ∈ d.names := by rw [hn]; exact List.mem_cons_self ..
   have hp := (hT.part k d s q hd hm).1
   have hat : T.at (l ++ [s]) = some q := by
    rw [Tr.at_snoc, hk]
    show T.hop k s = _
    rw [Tr.hop_dir hd hdir, zdg (hT.keys k d hd) hm]
   have hpts : Pts (l ++ [s]) := Pts.snoc.2 ⟨hl, hp⟩
   have he := hS.leads _ hpts
   rw [hat] at he
   have := h _ (zcf he)
   rw [(kidOf_join hl hpts).2 ⟨s, rfl, rfl⟩] at this
   cases this
 ·intro h e he
  cases hc : kidOf (zal l) e.1 with
  | none => rfl
  | some x =>
   exfalso
   obtain ⟨m, n, hm, h1, h2, _⟩ := hS.entry he
   rw [h1] at hc
   obtain ⟨nm, rfl, _⟩ := (kidOf_join hl hm).1 hc
   rw [Tr.at_snoc, hk] at h2
   have h2 : T.hop k nm = some n := h2
   rw [Tr.hop_dir hd hdir, h] at h2
   cases h2
theorem Sim.no_write {s : ByteArray} {b : List UInt8} {add : Bool} {c : Nat} (h : NoWrite R s b add c) : T.cWrite s b add = c := by
 unfold Tr.cWrite
 rcases h with ⟨rfl, hc⟩ | ⟨l, hc, ⟨rfl, hd⟩ | ⟨hd, h⟩⟩
 ·rw [zel hc]
 ·rw [hS.find_bad hT hc hd]
 ·obtain ⟨sp, h1, h2, _⟩ := hS.find_good hT hc hd
  have hl := (zay hc).1
  rw [h1]
  dsimp only
  rw [h2]
  rcases h with ⟨rfl, m, r, h, hr, hrd⟩ | ⟨rfl, h, hn⟩ | ⟨rfl, m, r, h, hr, hrd, hg⟩
  ·obtain ⟨k, d, q1, q2, q3, q4, q5, _⟩ := hS.at_some hT hl h hr
   rw [q1]
   dsimp only
   rw [q3]
   exact if_pos (by rw [← q4]; exact hrd)
  ·rw [(hS.at_none hl).1 h]
   have := hS.count
   exact if_pos (by omega)
  ·obtain ⟨k, d, q1, q2, q3, q4, q5, _⟩ := hS.at_some hT hl h hr
   rw [q1]
   dsimp only
   rw [q3]
   dsimp only
   rw [if_neg (by rw [← q4, hrd]; decide), ← q5]
   exact if_pos hg
theorem Sim.wrote {R' : RT} {s : ByteArray} {b : List UInt8} {add : Bool} (h : zd9 R R' s b add) : T.cWrite s b add = 0 := by
 unfold Tr.cWrite
 rcases h with ⟨l, i, m, ri, rk, hc, hd, h, hn, hb, _⟩ | ⟨l, m, r, hc, hd, h, hr, hrd, hg, _⟩
 ·obtain ⟨sp, h1, h2, _⟩ := hS.find_good hT hc hd
  rw [h1]
  dsimp only
  rw [h2, (hS.at_none (zay hc).1).1 h]
  have := hS.count
  exact if_neg (by omega)
 ·obtain ⟨sp, h1, h2, _⟩ := hS.find_good hT hc hd
  obtain ⟨k, d, q1, q2, q3, q4, q5, _⟩ := hS.at_some hT (zay hc).1 h hr
  rw [h1]
  dsimp only
  rw [h2, q1]
  dsimp only
  rw [q3]
  dsimp only
  rw [if_neg (by rw [← q4, hrd]; decide), ← q5]
  exact if_neg (by omega)
theorem Sim.no_remove {s : ByteArray} {c : Nat} (h : NoRemove R s c) : T.cRemove s = c := by
 unfold Tr.cRemove
 rcases h with ⟨rfl, hc⟩ | ⟨l, hc, ⟨rfl, hd⟩ | ⟨hd, h⟩⟩
 ·rw [zel hc]
 ·rw [hS.find_bad hT hc hd]
 ·obtain ⟨sp, h1, h2, h3⟩ := hS.find_good hT hc hd
  have hl := (zay hc).1
  rw [h1]
  dsimp only
  rw [h2]
  rcases h with ⟨rfl, h⟩ | ⟨rfl, m, r, h, hr, h4⟩
  ·rw [(hS.at_none hl).1 h]
  ·obtain ⟨k, d, q1, q2, q3, q4, q5, _⟩ := hS.at_some hT hl h hr
   rw [q1]
   dsimp only
   cases hin : sp.inn with
   | none => rfl
   | some i =>
    dsimp only
    rw [q3]
    rcases h4 with rfl | ⟨h5, h6⟩
    ·rw [h3.1 rfl] at hin; cases hin
    ·rw [q4] at h5
     exact if_pos ⟨h5, fun e => h6 ((hS.kids_none hT hl q1 q3 h5).2 e)⟩
theorem Sim.removed {R' : RT} {s : ByteArray} (h : zea R R' s) : T.cRemove s = 0 := by
 obtain ⟨l, m, r, i, ri, hc, hd, h0, h, hr, hk, _⟩ := h
 unfold Tr.cRemove
 obtain ⟨sp, h1, h2, h3⟩ := hS.find_good hT hc hd
 have hl := (zay hc).1
 obtain ⟨k, d, q1, q2, q3, q4, q5, _⟩ := hS.at_some hT hl h hr
 rw [h1]
 dsimp only
 rw [h2, q1]
 dsimp only
 cases hin : sp.inn with
 | none => exact absurd (h3.2 hin) h0
 | some i =>
  dsimp only
  rw [q3]
  refine if_neg (fun h => h.2 ?_)
  exact (hS.kids_none hT hl q1 q3 h.1).1 (hk (q4.trans h.1))
theorem Sim.no_file {s : ByteArray} {c : Nat} (h : NoFile R s c) : T.fileOf s = .error c := by
 unfold Tr.fileOf
 rcases h with ⟨rfl, hc⟩ | ⟨l, hc, ⟨rfl, hd⟩ | ⟨hd, h⟩⟩
 ·rw [zel hc]
 ·rw [hS.find_bad hT hc hd]
 ·obtain ⟨sp, h1, h2, h3⟩ := hS.find_good hT hc hd
  have hl := (zay hc).1
  rw [h1]
  dsimp only
  rw [h2]
  rcases h with ⟨rfl, h⟩ | ⟨rfl, m, r, h, hr, h4⟩
  ·rw [(hS.at_none hl).1 h]
  ·obtain ⟨k, d, q1, q2, q3, q4, q5, _⟩ := hS.at_some hT hl h hr
   rw [q1]
   dsimp only
   rw [q3]
   exact if_pos (by rw [← q4]; exact h4)
theorem Sim.is_file {s : ByteArray} {m : Nat} {r : RNd} (h : ze5 R s m r) : ∃ k d, T.fileOf s = .ok k ∧ f k = m ∧ T.nd k = some d ∧ d.dir = false ∧ d.data = r.data ∧ d.tick = r.tick ∧ ∃ l, zbh s = some l ∧ T.at l = some k := by
 obtain ⟨l, hc, hd, h, hr, hrd⟩ := h
 obtain ⟨sp, h1, h2, h3⟩ := hS.find_good hT hc hd
 obtain ⟨k, d, q1, q2, q3, q4, q5, q6⟩ := hS.at_some hT (zay hc).1 h hr
 refine ⟨k, d, ?_, q2, q3, by rw [← q4]; exact hrd, q5.symm, q6.symm, l, hc, q1⟩
 unfold Tr.fileOf
 rw [h1]
 dsimp only
 rw [h2, q1]
 dsimp only
 rw [q3]
 exact if_neg (by rw [← q4, hrd]; decide)
omit hT in
theorem Sim.up {s : ByteArray} {dp : List ByteArray} {nm : ByteArray} {l : List ByteArray} {i i' : Nat} (h1 : zbh s = some (dp ++ [nm])) (h2 : zbh s = some l) (hi : T.at dp = some i) (he : zaw R.L (zal l.dropLast) = some i') : l = dp ++ [nm] ∧ i' = f i ∧ Pts (dp ++ [nm]) := by
 rw [h1] at h2
 obtain rfl := Option.some.inj h2
 have hp := (zay h1).1
 rw [List.dropLast_concat, hS.leads dp (Pts.snoc.1 hp).1, hi] at he
 exact ⟨rfl, (Option.some.inj he).symm, hp⟩
end
theorem PGrown.ti {T T' : Tr} {s : ByteArray} {dir : Bool} {data : List UInt8} (h : PGrown T T' s dir data) (hI : TI T) (hd : data.length ≤ 65536) : TI T' := by
 obtain ⟨dp, nm, i, k, di, dk, a1, a2, a3, a4, a5, a6, a7, a8, a9, a10⟩ := h
 have hp := zay a1
 have hat := a7.at hI.tw a2 a3 a4 a5 a6
 have hnew : T.at (dp ++ [nm]) = none := by
  rw [Tr.at_snoc, a2]
  show T.hop i nm = none
  rw [Tr.hop_dir a3 a4, a5]
 refine ⟨a7.tw hI.tw a2 a3 a4 a5 a6 (Pts.snoc.1 hp.1).2 (hp.2.2.2 nm (by simp)), fun n d hn hdir => ?_, fun n d hn => ?_, fun n d hn => ?_⟩
 ·by_cases h1 : n = k
  ·subst h1
   rw [a7.here] at hn
   cases hn
   exact ⟨⟨dp ++ [nm], by rw [hat, if_pos rfl]⟩, by rw [a10, ← a8, hdir]; rfl⟩
  ·have old : ∃ d0, T.nd n = some d0 ∧ d0.dir = true ∧ d0.links = d.links := by
    by_cases h2 : n = i
    ·subst h2
     rw [a7.up] at hn
     cases hn
     exact ⟨di, a3, a4, rfl⟩
    ·rw [a7.oth n h2 h1] at hn
     exact ⟨d, hn, hdir, rfl⟩
   obtain ⟨d0, o1, o2, o3⟩ := old
   obtain ⟨⟨l, hl⟩, h4⟩ := hI.dirs n d0 o1 o2
   refine ⟨⟨l, ?_⟩, o3.symm.trans h4⟩
   rw [hat, if_neg (fun e => by rw [e, hnew] at hl; cases hl), hl]
 ·by_cases h1 : n = k
  ·subst h1
   rw [a7.here] at hn
   cases hn
   rw [a9]
   exact hd
  ·by_cases h2 : n = i
   ·subst h2
    rw [a7.up] at hn
    cases hn
    exact hI.data n di a3
   ·rw [a7.oth n h2 h1] at hn
    exact hI.data n d hn
 ·have hc := a7.clock
  obtain ⟨i0, i1, i2⟩ := hI.num i di a3
  by_cases h1 : n = k
  ·subst h1
   rw [a7.here] at hn
   cases hn
   have h3 := a7.tick
   have h4 := a7.bare
   rw [h4, h3]
   simp only [List.length_nil]
   omega
  ·by_cases h2 : n = i
   ·subst h2
    rw [a7.up] at hn
    cases hn
    simp only [List.length_append, List.length_singleton]
    omega
   ·rw [a7.oth n h2 h1] at hn
    have := hI.num n d hn
    omega
theorem PTurned.ti {T T' : Tr} {s : ByteArray} {b : List UInt8} {add : Bool} (h : PTurned T T' s b add) (hI : TI T) : TI T' := by
 obtain ⟨l, k, d, b1, b2, b3, b4, b5, b6⟩ := h
 refine ⟨b6.tw hI.tw b3, fun n e hn hdir => ?_, fun n e hn => ?_, fun n e hn => ?_⟩
 ·have old : ∃ d0, T.nd n = some d0 ∧ d0.dir = true ∧ d0.links = e.links := by
   by_cases h1 : n = k
   ·subst h1
    obtain ⟨bv, h2⟩ := b6.here
    rw [h2] at hn
    cases hn
    exact ⟨d, b3, hdir, rfl⟩
   ·rw [b6.oth n h1] at hn
    exact ⟨e, hn, hdir, rfl⟩
  obtain ⟨d0, o1, o2, o3⟩ := old
  obtain ⟨⟨l, hl⟩, h4⟩ := hI.dirs n d0 o1 o2
  exact ⟨⟨l, (Tr.at_same b6.root (b6.sk b3) l).trans hl⟩, o3.symm.trans h4⟩
 ·by_cases h1 : n = k
  ·subst h1
   obtain ⟨bv, h2⟩ := b6.here
   rw [h2] at hn
   cases hn
   exact b5
  ·rw [b6.oth n h1] at hn
   exact hI.data n e hn
 ·have hc := b6.clock
  by_cases h1 : n = k
  ·subst h1
   obtain ⟨bv, h2⟩ := b6.here
   rw [h2] at hn
   cases hn
   have := hI.num n d b3
   show 0 ≤ T.clock + 1 ∧ T.clock + 1 ≤ T'.clock ∧ (d.names.length : Int) ≤ T'.clock
   omega
  ·rw [b6.oth n h1] at hn
   have := hI.num n e hn
   omega
theorem zdq.ti {T T' : Tr} {s : ByteArray} {b : List UInt8} {add : Bool} (h : zdq T T' s b add) (hI : TI T) : TI T' := by
 rcases h with ⟨h, hb⟩ | h
 ·exact h.ti hI hb
 ·exact h.ti hI
theorem zds.ti {T T' : Tr} {s : ByteArray} (h : zds T T' s) (hI : TI T) : TI T' := by
 obtain ⟨dp, nm, i, k, di, dk, a1, a2, a3, a4, a5, a6, a7, a8, a9⟩ := h
 have hat := a9.at hI.tw a2 a3 a4 a5 a6 a7
 have hik := hI.tw.apart a2 a3 a4 a5
 have hthe : T.at (dp ++ [nm]) = some k := by
  rw [Tr.at_snoc, a2]
  show T.hop i nm = some k
  rw [Tr.hop_dir a3 a4, a5]
 refine ⟨a9.tw hI.tw a2 a3 a4 a5 a6 a7 a8, fun n d hn hdir => ?_, fun n d hn => ?_, fun n d hn => ?_⟩
 ·have old : ∃ d0, T.nd n = some d0 ∧ d0.dir = true ∧ d0.links = d.links ∧ n ≠ k := by
   rcases a9.cases hik n d hn with ⟨rfl, h1, rfl⟩ | ⟨rfl, h1, rfl⟩ | ⟨h1, h2, h3⟩
   ·have hdir : dk.dir = true := hdir
    rw [hdir] at h1; cases h1
   ·exact ⟨di, a3, a4, rfl, h1⟩
   ·exact ⟨d, h3, hdir, rfl, h2⟩
  obtain ⟨d0, o1, o2, o3, o4⟩ := old
  obtain ⟨⟨l, hl⟩, h4⟩ := hI.dirs n d0 o1 o2
  refine ⟨⟨l, ?_⟩, o3.symm.trans h4⟩
  rw [hat, if_neg (fun e => by rw [e, hthe] at hl; exact o4 (Option.some.inj hl).symm), hl]
 ·rcases a9.cases hik n d hn with ⟨rfl, h1, rfl⟩ | ⟨rfl, h1, rfl⟩ | ⟨h1, h2, h3⟩
  ·exact hI.data n dk a6
  ·exact hI.data n di a3
  ·exact hI.data n d h3
 ·have hc := a9.clock
  rcases a9.cases hik n d hn with ⟨rfl, h1, rfl⟩ | ⟨rfl, h1, rfl⟩ | ⟨h1, h2, h3⟩
  ·have := hI.num n dk a6
   show 0 ≤ dk.tick ∧ dk.tick ≤ T'.clock ∧ (dk.names.length : Int) ≤ T'.clock
   omega
  ·have h4 := hI.num n di a3
   have h5 : (di.names.filter (fun p => !(nm == p.1))).length ≤ di.names.length := List.length_filter_le _ _
   show 0 ≤ T.clock + 1 ∧ T.clock + 1 ≤ T'.clock ∧ ((di.names.filter (fun p => !(nm == p.1))).length : Int) ≤ T'.clock
   omega
  ·have := hI.num n d h3
   omega
def TG (T : Tr) : Prop := ∀ n d s k, T.nd n = some d → (s, k) ∈ d.names → GP s ∧ (0 : UInt8) ∉ bl s
theorem PGrown.tg {T T' : Tr} {s : ByteArray} {dir : Bool} {data : List UInt8} (h : PGrown T T' s dir data) (hG : TG T) : TG T' := by
 obtain ⟨dp, nm, i, k, di, dk, a1, a2, a3, a4, a5, a6, a7, a8, a9, a10⟩ := h
 intro n d x q hn hx
 by_cases h1 : n = k
 ·subst h1
  rw [a7.here] at hn
  cases hn
  rw [a7.bare] at hx
  cases hx
 ·by_cases h2 : n = i
  ·subst h2
   rw [a7.up] at hn
   cases hn
   rcases List.mem_append.1 hx with hx | hx
   ·exact hG n di x q a3 hx
   ·rw [List.mem_singleton] at hx
    cases hx
    exact clean_gp a1 nm (by simp)
  ·rw [a7.oth n h2 h1] at hn
   exact hG n d x q hn hx
theorem PTurned.tg {T T' : Tr} {s : ByteArray} {b : List UInt8} {add : Bool} (h : PTurned T T' s b add) (hG : TG T) : TG T' := by
 obtain ⟨l, k, d, b1, b2, b3, b4, b5, b6⟩ := h
 intro n e x q hn hx
 by_cases h1 : n = k
 ·subst h1
  obtain ⟨bv, h2⟩ := b6.here
  rw [h2] at hn
  cases hn
  exact hG n d x q b3 hx
 ·rw [b6.oth n h1] at hn
  exact hG n e x q hn hx
theorem zdq.tg {T T' : Tr} {s : ByteArray} {b : List UInt8} {add : Bool} (h : zdq T T' s b add) (hG : TG T) : TG T' := by
 rcases h with ⟨h, _⟩ | h
 ·exact h.tg hG
 ·exact h.tg hG
theorem zds.tg {T T' : Tr} {s : ByteArray} (h : zds T T' s) (hI : TI T) (hG : TG T) : TG T' := by
 obtain ⟨dp, nm, i, k, di, dk, a1, a2, a3, a4, a5, a6, a7, a8, a9⟩ := h
 have hik := hI.tw.apart a2 a3 a4 a5
 intro n d x q hn hx
 rcases a9.cases hik n d hn with ⟨rfl, h1, rfl⟩ | ⟨rfl, h1, rfl⟩ | ⟨h1, h2, h3⟩
 ·exact hG n dk x q a6 hx
 ·exact hG n di x q a3 (List.mem_filter.1 hx).1
 ·exact hG n d x q h3 hx
structure RN (R : RT) (n : Nat) : Prop where
 rb : RB R
 len : R.L.length ≤ n + 1
 now : R.now ≤ n
 data : ∀ m d, R.nd m = some d → d.data.length ≤ 65536
theorem MOk.rn {R R' : RT} {o : AOp} {n : Nat} (h : MOk R R' o) (hb : RN R n) (hn : n < 80000) : RN R' (n + 1) := by
 have hl : R.L.length < 90000 := by have := hb.len; omega
 have hnow : R.now < 1152921504606846976 := by have := hb.now; omega
 have h0 := hb.rb.now0
 have hnw := hb.now
 have hlen := hb.len
 have wr : ∀ {s : ByteArray} {b : List UInt8} {add : Bool}, zd9 R R' s b add → RN R' (n + 1) := fun {s b add} h => by
  refine ⟨h.rb hb.rb hl hnow, ?_, ?_, ?_⟩
  ·rcases h with ⟨l, i, m, ri, rk, hc, hd, h, hn, hb2, h2, h3, h4, h5, h6, h7⟩ | ⟨l, m, r, hc, hd, h, hr, hrd, hg, h2⟩
   ·rw [h5.L, (zcn R.L (zal l) m).length_eq, List.length_cons]; omega
   ·rw [h2.L]; omega
  ·rcases h with ⟨l, i, m, ri, rk, hc, hd, h, hn, hb2, h2, h3, h4, h5, h6, h7⟩ | ⟨l, m, r, hc, hd, h, hr, hrd, hg, h2⟩
   ·rw [h5.now]; omega
   ·rw [h2.now]; omega
  ·intro x e hx
   rcases h with ⟨l, i, m, ri, rk, hc, hd, h, hn, hb2, h2, h3, h4, h5, h6, h7⟩ | ⟨l, m, r, hc, hd, h, hr, hrd, hg, h2⟩
   ·by_cases e1 : x = m
    ·subst e1
     rw [h5.here] at hx
     cases hx
     rw [h7]; omega
    ·by_cases e2 : x = i
     ·subst e2
      rw [h5.up] at hx
      cases hx
      have := hb.data x ri h3
      show ri.data.length ≤ _; omega
     ·rw [h5.oth x e2 e1] at hx
      have := hb.data x e hx
      omega
   ·by_cases e1 : x = m
    ·subst e1
     obtain ⟨dv, hh⟩ := h2.here
     rw [hh] at hx
     cases hx
     exact hg
    ·rw [h2.oth x e1] at hx
     have := hb.data x e hx
     omega
 rcases h with ⟨_, h⟩ | ⟨_, h⟩ | ⟨_, h⟩ | ⟨_, h⟩ | ⟨_, h⟩ | ⟨_, h⟩ | ⟨_, h⟩
 ·obtain ⟨l, i, m, ri, rk, hc, hd, h, hn, h2, h3, h4, h5, h6, h7, _⟩ := h
  have hins : ∀ e ∈ R'.L, e.1.length ≤ 100000 := fun e he => by
   rw [h5.L] at he
   rcases zdf.1 he with rfl | he
   ·show (zal l).length ≤ _
    have := zay hc
    omega
   ·exact hb.rb.paths e he
  have hlen' : R'.L.length = R.L.length + 1 := by rw [h5.L, (zcn R.L (zal l) m).length_eq, List.length_cons]
  refine ⟨⟨by omega, hins, ?_, by rw [h5.now]; omega, by rw [h5.now]; omega⟩, by omega, by rw [h5.now]; omega, fun x e hx => ?_⟩
  ·rw [h5.L, zb5 m h]
   split
   ·exact fun h => by cases h
   ·exact hb.rb.root
  ·by_cases e1 : x = m
   ·subst e1
    rw [h5.here] at hx
    cases hx
    rw [h7]; exact Nat.zero_le _
   ·by_cases e2 : x = i
    ·subst e2
     rw [h5.up] at hx
     cases hx
     have := hb.data x ri h3
     show ri.data.length ≤ _; omega
    ·rw [h5.oth x e2 e1] at hx
     have := hb.data x e hx
     omega
 ·exact wr h
 ·exact wr h
 ·obtain ⟨l, m, r, i, ri, hc, hd, h0, h, hr, hk, h2, h3, h4⟩ := h
  have hle : R'.L.length ≤ R.L.length := by rw [h4.L]; exact List.length_filter_le _ _
  refine ⟨⟨by omega, fun e he => ?_, ?_, by rw [h4.now]; omega, by rw [h4.now]; omega⟩, by omega, by rw [h4.now]; omega, fun x e hx => ?_⟩
  ·rw [h4.L] at he
   exact hb.rb.paths e (zfo.1 he).1
  ·rw [h4.L, zdl]
   rw [if_neg (fun e => h0 ?_)]
   ·exact hb.rb.root
   ·rcases zb3 l with rfl | ⟨dp, nm, rfl⟩
    ·rfl
    ·exfalso
     have e2 : zal (dp ++ [nm]) = zal dp ++ 47 :: bl nm := by
      show zc4 ((dp ++ [nm]).map bl) = zc4 (dp.map bl) ++ 47 :: bl nm
      rw [List.map_append, List.map_singleton, zdx]
     rw [e2] at e
     have := congrArg List.length e
     simp at this
  ·by_cases e2 : x = i
   ·subst e2
    rw [h4.up] at hx
    cases hx
    have := hb.data x ri h3
    show ri.data.length ≤ _; omega
   ·rw [h4.oth x e2] at hx
    have := hb.data x e hx
    omega
 ·obtain ⟨m, r, l, i, ri, h, hc, hd, h1, h2, h3, h5⟩ := h
  have hlen' : R'.L.length = R.L.length + 1 := by rw [h5.L, (zcn R.L (zal l) m).length_eq, List.length_cons]
  refine ⟨⟨by omega, fun e he => ?_, ?_, by rw [h5.now]; omega, by rw [h5.now]; omega⟩, by omega, by rw [h5.now]; omega, fun x e hx => ?_⟩
  ·rw [h5.L] at he
   rcases zdf.1 he with rfl | he
   ·show (zal l).length ≤ _
    have := zay hc
    omega
   ·exact hb.rb.paths e he
  ·rw [h5.L, zb5 m h1]
   split
   ·exact fun h => by cases h
   ·exact hb.rb.root
  ·by_cases e2 : x = i
   ·subst e2
    rw [h5.up] at hx
    cases hx
    have := hb.data x ri h3
    show ri.data.length ≤ _; omega
   ·rw [h5.oth x e2] at hx
    have := hb.data x e hx
    omega
 ·exact wr h
 ·exact wr h
theorem RN.mono {R : RT} {n n' : Nat} (h : RN R n) (hn : n ≤ n') : RN R n' :=
 ⟨h.rb, by have := h.len; omega, by have := h.now; omega, h.data⟩
theorem Sim.tnum {T : Tr} {R : RT} {f : Nat → Nat} (hS : Sim T R f) (hb : RB R) : TNum T := by
 have hl := hb.len
 have h1 : ∀ n, za4 R.L n ≤ R.L.length := fun n => by
  unfold za4
  have := List.count_le_length (a := n) (l := R.L.map (·.2))
  rwa [List.length_map] at this
 have h2 : ∀ l : List Nat, cntD l ≤ l.length := by
  intro l
  induction l with
  | nil => exact Nat.le_refl _
  | cons a l ih => rw [cntD, List.length_cons]; split <;> omega
 have h3 : zbq R.L ≤ R.L.length := by
  have := h2 (R.L.map (·.2))
  rwa [List.length_map] at this
 have := hS.now
 have := hS.count
 have := hb.now0
 have := hb.now1
 refine ⟨by omega, by omega, by omega, by omega, fun n d hn hd => ?_, fun n d hn hd => ?_⟩
 ·have := hS.links n d hn hd
  omega
 ·have := hS.links n d hn hd
  have := h1 (f n)
  omega
end
end Go.Proofs.YteeeaeiafdgpkaaGreatDoor
