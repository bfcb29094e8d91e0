/-
  TreePaths's parts: a tree of one directory below the other.
  TreePaths's walk.
-/
import Derived.Test.YtiejfbkbjahcgaaDoorSimA
import Derived.Test.YtiejfbkbjahcgaaDoorMkdir
import Derived.Test.YtiejfbkbjahcgaaDoorAwake16
import Derived.Test.YtiejfbkbjahcgaaDoorStr
import Derived.Test.YtiejfbkbjahcgaaDoorRead
namespace Go.Proofs.YtiejfbkbjahcgaaDoor
open Go Go.RowKit

theorem newTr_tw (tb root mb : Nat) : TW (newTr tb root mb) := by
  have hs : ∀ n d, (newTr tb root mb).nd n = some d → n = root ∧ d.names = [] ∧ d.dir = true := fun n d h => by
    obtain ⟨h1, h2⟩ := newTr_nd h
    subst h2
    exact ⟨h1, rfl, rfl⟩
  have hat : ∀ l k, (newTr tb root mb).at l = some k → l = [] := by
    refine snocInd ?_ ?_
    · intro k _; rfl
    · intro l x ih k h
      rw [Tr.at_snoc] at h
      cases hl : (newTr tb root mb).at l with
      | none => rw [hl] at h; cases h
      | some n =>
        rw [hl] at h
        obtain ⟨d, h1, _, h3⟩ := Tr.hop_some h
        rw [(hs n d h1).2.1] at h3
        cases h3
  refine ⟨⟨_, newTr_root tb root mb, rfl⟩, fun n d s k h1 h2 => ?_, fun n d h1 h2 => ?_, fun n d s k h1 h2 => ?_, fun n d h1 => ?_, fun l m k d h1 h2 _ _ => ?_⟩
  · rw [(hs n d h1).2.1] at h2; cases h2
  · exact (hs n d h1).2.1
  · rw [(hs n d h1).2.1] at h2; cases h2
  · rw [(hs n d h1).2.1]; exact List.nodup_nil
  · rw [hat l k h1, hat m k h2]

theorem newNode_grown {T : Tr} {i k : Nat} {di dk : Nd} {nm : ByteArray} (hik : i ≠ k) (hb : dk.names = []) (ht : dk.tick = T.clock + 1) (h1 : dk.dir = false → dk.links = 1) : Grown T (T.newNode i di nm k dk) i k di dk nm :=
  ⟨rfl, rfl, rfl, newNode_k, hb, ht, h1, newNode_i hik, fun _ h h' => newNode_other h h'⟩
theorem newFile_grown {T : Tr} {i k : Nat} {di : Nd} {nm : ByteArray} (bv : Value) (b : List UInt8) (hik : i ≠ k) : Grown T (T.newFile i di nm k bv b) i k di { dir := false, bv := bv, data := b, names := [], mb := 0, links := 1, tick := T.clock + 1 } nm :=
  ⟨rfl, rfl, rfl, newFile_k _ _ _ _ _ _ _, rfl, rfl, fun _ => rfl, newFile_i _ _ _ _ _ hik, fun _ h h' => newFile_other _ _ _ _ _ h h'⟩
theorem Rep.no_node {B : Nat} {w : World} {T : Tr} (hR : Rep B w T) {k : Nat} (hk : w.heap.size ≤ k) : T.nd k = none := by
  cases h : T.nd k with
  | none => rfl
  | some d => have := hR.node_lt h; omega

/-- The directories of l's first j parts are there, and nothing else; the law's data as it was. -/
structure DP (B : Nat) (w : World) (tb : Nat) (l : List ByteArray) (j : Nat) (T : Tr) (wr : World) : Prop where
  rep : Rep B wr T
  tw : TW T
  htb : T.tb = tb
  last : ∃ n d, T.at (l.take j) = some n ∧ T.nd n = some d ∧ d.dir = true ∧ d.names = []
  count : T.count = j + 1
  clock : T.clock = j
  below : Below B w wr
  base : B ≤ wr.heap.size

/-- What of a path's parts the proof wants. -/
structure PL (l : List ByteArray) : Prop where
  pts : Pts l
  gp : ∀ x ∈ l, GP x ∧ (0 : UInt8) ∉ bl x
  small : ∀ x ∈ l, x.size ≤ 64
  len : (joinB l).length ≤ 256

theorem PL.take {l : List ByteArray} (h : PL l) (j : Nat) : PL (l.take j) :=
  ⟨fun x hx => h.pts x (List.mem_of_mem_take hx), fun x hx => h.gp x (List.mem_of_mem_take hx), fun x hx => h.small x (List.mem_of_mem_take hx), Nat.le_trans (joinB_take_le l j) h.len⟩
theorem PL.clean {l : List ByteArray} (h : PL l) (h0 : l ≠ []) : clean (mkB (joinB l)) = some l := clean_joinB h0 h.pts h.gp h.small h.len

theorem DP.find {B : Nat} {w wr : World} {tb : Nat} {l : List ByteArray} {j : Nat} {T : Tr} (h : DP B w tb l j T wr) (hj : j < l.length) {s : ByteArray} (hc : Go.Proofs.YtiejfbkbjahcgaaDoor.clean s = some (l.take (j + 1))) :
    ∃ n d, T.at (l.take j) = some n ∧ T.nd n = some d ∧ d.dir = true ∧ d.names = [] ∧ T.find s = .ok ⟨some n, l[j], none⟩ := by
  obtain ⟨n, d, h1, h2, h3, h4⟩ := h.last
  refine ⟨n, d, h1, h2, h3, h4, ?_⟩
  unfold Tr.find
  rw [hc, List.take_succ_eq_append_getElem hj]
  show T.parts _ = _
  rw [Tr.parts_dir h1 h2 h3, h4]
  rfl

/-- What Mkdir of the next directory leaves. -/
def DMk (B : Nat) (w : World) (tb : Nat) (l : List ByteArray) (j : Nat) (e : Ending) (w' : World) : Prop :=
  e = .returned .nilIface ∧ ∃ T', DP B w tb l j T' w'

theorem DP.mkdir {E : Nat → Addr} {B : Nat} {w wr : World} {tb : Nat} {l : List ByteArray} {j : Nat} {T : Tr} (hE : Ctx E B wr) (h : DP B w tb l j T wr) (hl : PL l) (hj : j < l.length) (h128 : l.length ≤ 150) (s : ByteArray) (hs : bl s = joinB (l.take (j + 1))) :
    Calls Tryd.prog 27 #[.pointer (some ⟨tb, 0, none⟩), .string s] wr fun e w' => DMk B w tb l (j + 1) e w' := by
  have hne : l.take (j + 1) ≠ [] := fun e => by
    have h2 : (l.take (j + 1)).length = 0 := by rw [e]; rfl
    rw [List.length_take] at h2
    omega
  have hc : clean s = some (l.take (j + 1)) := by
    have h1 := (hl.take (j + 1)).clean hne
    rw [← hs] at h1
    rw [← h1]
    exact congrArg clean (mkB_data s).symm
  have hsz : s.size ≤ 256 := (clean_parts hc).2.2.1
  obtain ⟨n, d, h1, h2, h3, h4, h5⟩ := h.find hj hc
  have htb := h.htb
  subst htb
  have hck := h.clock
  have hct := h.count
  refine (mkdir_new s wr hE h.rep (by omega) _ h5 rfl (by omega) (by omega) (by omega) (by omega) n d rfl h2 h3 (by rw [h4]; rfl)).mono ?_
  rintro e w' ⟨k, mb, rfl, hk, hR, hkp, hft⟩
  have hnk : n ≠ k := by have := h.rep.node_lt h2; omega
  have hg := newNode_grown (T := T) (i := n) (k := k) (di := d) (dk := { dir := true, bv := .slice none 0 0, data := [], names := [], mb := mb, links := 0, tick := T.clock + 1 }) (nm := l[j]) hnk rfl rfl (fun h => (by cases h))
  have hlk : look d.names l[j] = none := by rw [h4]; rfl
  have hx := hl.pts l[j] (List.getElem_mem hj)
  have hat := hg.at h.tw h1 h2 h3 hlk (h.rep.no_node hk) (l.take (j + 1))
  rw [List.take_succ_eq_append_getElem hj, if_pos rfl] at hat
  refine ⟨rfl, _, hR, hg.tw h.tw h1 h2 h3 hlk (h.rep.no_node hk) hx (hl.small _ (List.getElem_mem hj)), rfl, ⟨k, _, by rw [List.take_succ_eq_append_getElem hj]; exact hat, newNode_k, rfl, rfl⟩, ?_, ?_, h.below.trans (hkp.below (fun x hx => h.rep.low x hx) h.base), Nat.le_trans h.base hkp.size⟩
  · show T.count + 1 = _
    rw [hct]; omega
  · show T.clock + 1 = _
    rw [hck]; omega

/-- What the law's Write leaves. -/
def DWr (B : Nat) (w : World) (tb : Nat) (l : List ByteArray) (b : List UInt8) (e : Ending) (w' : World) : Prop :=
  e = .returned .nilIface ∧ ∃ T' k d, Rep B w' T' ∧ T'.tb = tb ∧ T'.parts l = .ok ⟨(T'.at l.dropLast), (l.getLast?).getD ByteArray.empty, some k⟩ ∧ T'.nd k = some d ∧ d.dir = false ∧ d.data = b ∧ Below B w w' ∧ B ≤ w'.heap.size

theorem DP.write {E : Nat → Addr} {B : Nat} {w wr : World} {tb : Nat} {l : List ByteArray} {T : Tr} (hE : Ctx E B wr) (h0 : l ≠ []) (h : DP B w tb l (l.length - 1) T wr) (h128 : l.length ≤ 150) (p : ByteArray) (hc : clean p = some l) (bv : Value) (b : List UInt8) (hb : Src wr bv b) (hbf : 0 < b.length → ∀ x, bv.ownBlock = some x → x < B) (hbl : b.length ≤ 65536) :
    Calls Tryd.prog 28 #[.pointer (some ⟨tb, 0, none⟩), .string p, bv, .bool false] wr fun e w' => DWr B w tb l b e w' := by
  have hpos : 0 < l.length := List.length_pos_iff.2 h0
  have hj : l.length - 1 < l.length := by omega
  have hsz : p.size ≤ 256 := (clean_parts hc).2.2.1
  have hc' : clean p = some (l.take (l.length - 1 + 1)) := by rw [hc, List.take_of_length_le (by omega)]
  obtain ⟨n, d, h1, h2, h3, h4, h5⟩ := h.find hj hc'
  have hfoot : 0 < b.length → ∀ x, bv.ownBlock = some x → ¬ T.foot x := fun h0 x hx hf => by
    have q1 := hbf h0 x hx
    have q2 := h.rep.low x hf
    omega
  have htb := h.htb
  subst htb
  have hck := h.clock
  have hct := h.count
  refine (write_new p bv b false wr hE h.rep (by omega) _ h5 rfl (by omega) (by omega) (by omega) (by omega) hb hfoot hbl n d rfl h2 h3 (by rw [h4]; rfl)).mono ?_
  rintro e w' ⟨k, bv', rfl, hk, hR, hkp, hft⟩
  have hnk : n ≠ k := by have := h.rep.node_lt h2; omega
  have hg := newFile_grown (T := T) (di := d) (nm := l[l.length - 1]) bv' b hnk
  have hlk : look d.names l[l.length - 1] = none := by rw [h4]; rfl
  have hat := hg.at h.tw h1 h2 h3 hlk (h.rep.no_node hk)
  have hll : l = l.take (l.length - 1) ++ [l[l.length - 1]] := by
    rw [← List.take_succ_eq_append_getElem hj, List.take_of_length_le (by omega)]
  have hat1 : (T.newFile n d l[l.length - 1] k bv' b).at (l.take (l.length - 1)) = some n := by
    rw [hat, if_neg (fun e => by
      have := congrArg List.length e
      simp only [List.length_append, List.length_cons, List.length_nil] at this
      omega), h1]
  refine ⟨rfl, _, k, _, hR, rfl, ?_, newFile_k _ _ _ _ _ _ _, rfl, rfl, h.below.trans (hkp.below (fun x hx => h.rep.low x hx) h.base), Nat.le_trans h.base hkp.size⟩
  have hdl : l.dropLast = l.take (l.length - 1) := List.dropLast_eq_take ..
  have hgl : l.getLast? = some l[l.length - 1] := by
    rw [List.getLast?_eq_getElem?, List.getElem?_eq_getElem hj]
  rw [hdl, hat1, hgl]
  have key := Tr.parts_dir (x := l[l.length - 1]) hat1 (newFile_i T d l[l.length - 1] bv' b hnk) h3
  rw [← hll] at key
  rw [key]
  have hlk2 : look (d.names ++ [(l[l.length - 1], k)]) l[l.length - 1] = some k := by
    rw [look_append _ _ _ _ hlk, if_pos rfl]
  show Except.ok (Spot.mk _ _ (look (d.names ++ [(l[l.length - 1], k)]) l[l.length - 1])) = _
  rw [hlk2]
  rfl

theorem clean_slash : clean ⟨#[47]⟩ = some [] := by kernel_rfl
theorem src_low3 {w : World} {v : Value} {l : List UInt8} (h : Src w v l) : 0 < l.length → ∀ x, v.ownBlock = some x → x < w.heap.size := fun hl x hx => by
  obtain ⟨b, h1, h2⟩ := h.lt hl
  rw [h1] at hx
  cases hx
  exact h2
theorem src_up3 {w wr : World} {s : Value} {l : List UInt8} (h : Src w s l) (hb : Below w.heap.size w wr) : Src wr s l := h.kept (Kept.of_below hb (fun _ => False)) (fun _ _ h => h)

/-- What tree.Clean leaves, whatever the path. -/
def CPost (w : World) (s : ByteArray) (e : Ending) (w' : World) : Prop :=
  Below w.heap.size w w' ∧ ((clean s = none ∧ e = .returned (.tuple #[.slice none 0 0, .bool false])) ∨ ∃ v l, clean s = some l ∧ e = .returned (.tuple #[v, .bool true]) ∧ StrsAt w' w.heap.size v l)
theorem tclean_any {m : Int} (s : ByteArray) (w : World) (hm : w.cell? ⟨22, 0, none⟩ = some (.int .i64 m)) (hsz : s.size ≤ 9223372036854775807) :
    Calls Tryd.prog 22 #[.string s] w fun e w' => CPost w s e w' := by
  by_cases hg : badPath s = true
  · refine (clean_bad s w hsz hg).mono ?_
    rintro e w' ⟨rfl, rfl⟩
    exact ⟨Below.refl _ _, .inl ⟨by unfold clean; rw [if_pos hg], rfl⟩⟩
  · have hg' : badPath s = false := by simpa using hg
    refine (clean_good s w hm hg').mono ?_
    rintro e w' ⟨v, he, hv, hb⟩
    by_cases hl : long (fold (pieces s)) = true
    · rw [if_pos hl] at he
      exact ⟨hb, .inl ⟨by unfold clean; rw [if_neg hg, if_pos hl], he⟩⟩
    · rw [if_neg hl] at he
      exact ⟨hb, .inr ⟨v, _, by unfold clean; rw [if_neg hg, if_neg hl], he, hv⟩⟩

/-- Clean, at any later world. -/
def CleanAt (w : World) (l : List ByteArray) (W : World) (e : Ending) (w' : World) : Prop :=
  ∃ a c, e = .returned (.tuple #[.slice a l.length c, .bool true]) ∧ l.length ≤ c ∧ Below w.heap.size w w' ∧ W.heap.size ≤ w'.heap.size ∧ Below W.heap.size W w' ∧ ∀ j (hj : j < l.length), ∃ g, a = some ⟨g, 0, none⟩ ∧ ∀ W2, Below w'.heap.size w' W2 → W2.cell? ⟨g, j, none⟩ = some (.string l[j])
theorem clean_at {E : Nat → Addr} {w W : World} {s : ByteArray} {l : List ByteArray} (hE : Ctx E w.heap.size w) (hb : Below w.heap.size w W) (hs : clean s = some l) :
    Calls Tryd.prog 22 #[.string s] W fun e w' => CleanAt w l W e w' := by
  obtain ⟨m, hm⟩ := (hE.below hb).max
  have hsz : s.size ≤ 9223372036854775807 := by have := (clean_parts hs).2.2.1; omega
  refine (tclean_any s W hm hsz).mono ?_
  rintro e w' ⟨hb1, hr⟩
  rcases hr with ⟨h, _⟩ | ⟨v, l', h, h1, h2⟩
  · rw [hs] at h; cases h
  · rw [hs] at h
    obtain rfl := Option.some.inj h
    obtain ⟨a, c, rfl, hc, hcell⟩ := h2.form
    refine ⟨a, c, h1, hc, below_trans hb hb1, hb1.size, hb1, fun j hj => ?_⟩
    obtain ⟨g, q1, _, q3⟩ := hcell j hj
    exact ⟨g, q1, fun W2 hW => (hW.cell (World.block_lt_of_cell? _ _ q3)).trans q3⟩

set_option maxRecDepth 100000 in
set_option maxHeartbeats 4000000 in
theorem treePaths_any {E : Nat → Addr} {B0 : Nat} (w : World) (hE : Ctx E B0 w) (s : ByteArray) (hsz : s.size ≤ 9223372036854775807)
    (xa : Option Addr) (xc : Nat) (xl : List UInt8) (hx : Src w (.slice xa xl.length xc) xl) (_hxl : xl.length ≤ 9223372036854775807) :
    Calls Tryd.prog 6 #[.string s, .slice xa xl.length xc] w fun e w' => AwPost w e w' := by
  have HE := Lib.hid hE.raise
  have HX := Lib.hid hx
  obtain ⟨m, hm⟩ := hE.max
  have HC0 := Lib.hid (tclean_any s w hm hsz)
  clear hE hx hm
  cases hcs : clean s with
  | none =>
    have HCS := Lib.hid hcs
    clear hcs
    go_enter Tryd.func6, Tryd.ntmps6
    go_wp2_with fail
    refine HC0.out.mono ?_
    rintro e w1 ⟨hb1, hr⟩
    obtain rfl : e = .returned (.tuple #[.slice none 0 0, .bool false]) := by
      rcases hr with ⟨_, h⟩ | ⟨v, l, h, _⟩
      · exact h
      · rw [HCS.out] at h; cases h
    have HB1 := Lib.hid hb1
    have HAW := Lib.hid (awake16_any w1 (HE.out.below HB1.out))
    clear hb1 hr
    go_wp2_with fail
    refine HAW.out.mono ?_
    rintro e w2 ⟨rfl, hb2⟩
    have HB2 := Lib.hid (below_trans HB1.out hb2)
    clear hb2
    go_wp2_with fail
    go_ret
    exact ⟨rfl, HB2.out⟩
  | some l =>
    have HCS := Lib.hid hcs
    have hp := clean_parts hcs
    have HPT := Lib.hid hp
    have HGP := Lib.hid (clean_gp hcs)
    have h128 : 2 * l.length ≤ 257 := by have := joinB_parts l hp.1; omega
    have HCL := Lib.hid (clean_at (W := w) HE.out (Below.refl _ _) hcs)
    clear hcs hp HC0
    go_enter Tryd.func6, Tryd.ntmps6
    go_wp2_with fail
    refine HCL.out.mono ?_
    rintro e w1 ⟨va, vc, rfl, hlc, hb1, _, _, hcells⟩
    have HB1 := Lib.hid hb1
    have HC := Lib.hid hcells
    clear hb1 hcells HCL
    by_cases hx1 : xl.length ≤ 1000
    · have hx1i : ¬ (1000 : Int) < xl.length := by omega
      go_wp2_with fail
      go_loop [7, 43] (fun sv idx => ∃ (k : Nat) (q : ByteArray), k ≤ l.length ∧ idx = .int .i64 k ∧ sv = .string q ∧ Hid (bl q = joinB (l.take k))) (fun _ idx => l.length - (intOf idx).toNat)
      case atStart => exact ⟨0, ⟨#[]⟩, Nat.zero_le _, rfl, rfl, rfl⟩
      case round =>
        obtain ⟨k, q, hk, rfl, rfl, hq⟩ := hrel
        by_cases hlt : k < l.length
        · obtain ⟨g, rfl, hcell0⟩ := HC.out k hlt
          have hcell := hcell0 _ (Below.refl _ _)
          have HJ : Hid (joinB (l.take (k + 1)) = joinB (l.take k) ++ 47 :: bl l[k]) := by
            show _ = _
            rw [List.take_succ_eq_append_getElem hlt, joinB_snoc]
          have hle := joinB_take_le l (k + 1)
          rw [HJ.out, ← hq.out, List.length_append, List.length_cons] at hle
          clear hcell0
          generalize l[k] = x at *
          have hsz : q.size + (1 + x.size) ≤ 100000 := by
            have h1 : q.size = (bl q).length := Lib.size_eq q
            have h2 : x.size = (bl x).length := Lib.size_eq x
            have h3 := HPT.out.2.1
            have h4 := HPT.out.2.2.1
            omega
          have hsz1 : ¬ 9223372036854775807 < 1 + x.size := by omega
          have hsz2 : ¬ 9223372036854775807 < q.size + (1 + x.size) := by omega
          clear hle hsz
          have hki : (k : Int) < l.length := by omega
          go_wp2_with fail
          go_round
          case rel => exact ⟨k + 1, _, by omega, by go_num, rfl, by
            show _ = _
            rw [HJ.out, ← hq.out, bl_append, bl_append]
            rfl⟩
          case measure => simp [intOf]; omega
        · obtain rfl : k = l.length := by omega
          have HQ : Hid (bl q = joinB l) := by
            have h := hq.out
            rw [List.take_length] at h
            exact h
          clear hq hlt hk
          by_cases h0 : l.length = 0
          · have h0i : (l.length : Int) = 0 := by omega
            have HCL := Lib.hid (clean_at (W := w1) HE.out HB1.out clean_slash)
            go_wp2_with fail
            refine HCL.out.mono ?_
            rintro e w2 ⟨ua, uc, rfl, _, hb2, _, _, _⟩
            have HB2 := Lib.hid hb2
            have HAW := Lib.hid (awake16_any w2 (HE.out.below HB2.out))
            clear hb2 HCL
            go_wp2_with fail
            go_loop [75] (fun idx => idx = .int .i64 0) (fun _ => 0)
            case atStart => rfl
            case round =>
              obtain rfl := hrel
              go_wp2_with fail
              refine HAW.out.mono ?_
              rintro e w3 ⟨rfl, hb3⟩
              have HB3 := Lib.hid (below_trans HB2.out hb3)
              clear hb3
              go_wp2_with fail
              go_ret
              exact ⟨rfl, HB3.out⟩
          · have h0i : ¬ (l.length : Int) = 0 := by omega
            have HQS : Hid (q.size = (joinB l).length) := by
              have h1 : q.size = (bl q).length := Lib.size_eq q
              show _ = _
              rw [h1, HQ.out]
            by_cases h256 : (joinB l).length ≤ 256
            · have HPL : Hid (PL l) := ⟨HPT.out.1, HGP.out, HPT.out.2.2.2, h256⟩
              have hq1 : q.size ≤ 256 := by rw [HQS.out]; exact h256
              have hq1i : ¬ (256 : Int) < q.size := by omega
              have HCQ : Hid (clean q = some l) := by
                have h := HPL.out.clean (fun e => h0 (by rw [e]; rfl))
                rw [← HQ.out, show mkB (bl q) = q from mkB_data q] at h
                exact h
              have HCL := Lib.hid (clean_at (W := w1) HE.out HB1.out HCQ.out)
              clear h256
              go_wp2_with fail
              refine HCL.out.mono ?_
              rintro e w2 ⟨ua, uc, rfl, _, hb2, _, hb12, hc2⟩
              have HB2 := Lib.hid hb2
              have HB12 := Lib.hid hb12
              have HC2 := Lib.hid hc2
              clear hb2 hb12 hc2 HCL
              go_wp2_with fail
              go_loopw [75] (fun idx wr => ∃ k : Nat, k ≤ l.length ∧ idx = .int .i64 k ∧ Hid (Below w2.heap.size w2 wr)) (fun idx _ => l.length - (intOf idx).toNat)
              case atStart => exact ⟨0, by omega, rfl, Below.refl _ _⟩
              case round =>
                obtain ⟨k, hk, rfl, hb⟩ := hrel
                by_cases hlt : k < l.length
                · obtain ⟨g, rfl, hc1⟩ := HC.out k hlt
                  obtain ⟨g', rfl, hc2⟩ := HC2.out k hlt
                  have hc1 := hc1 wr (below_trans HB12.out hb.out)
                  have hc2 := hc2 wr hb.out
                  have hki : (k : Int) < l.length := by omega
                  generalize l[k] = x at hc1 hc2
                  go_wp2_with fail
                  go_region
                  all_goals
                    go_wp2_with fail
                    go_roundw
                    case rel => exact ⟨k + 1, by omega, by go_num, hb.out.drew⟩
                    case measure => simp [intOf]; omega
                · have HB3 : Hid (Below w.heap.size w wr) := below_trans HB2.out hb.out
                  have HE3 : Hid (Ctx E wr.heap.size wr) := (HE.out.below HB3.out).raise
                  have HX3 := Lib.hid (src_up3 HX.out HB3.out)
                  have HC3 : Hid (∀ j (hj : j < l.length), ∃ g, va = some ⟨g, 0, none⟩ ∧ ∀ W2, Below wr.heap.size wr W2 → W2.cell? ⟨g, j, none⟩ = some (.string l[j])) := by
                    intro j hj
                    obtain ⟨g, h1, h2⟩ := HC.out j hj
                    exact ⟨g, h1, fun W2 hW => h2 W2 (below_trans (below_trans HB12.out hb.out) hW)⟩
                  obtain rfl : k = l.length := by omega
                  clear hb HC HC2 HB12 HB2 HB1 hk hlt
                  go_wp2_with fail
                  refine (tree_new wr).mono ?_
                  intro e w3 hp
                  obtain ⟨rfl, hrep3, hb3, hs3⟩ := hp
                  have HD0 : Hid (DP wr.heap.size wr (wr.heap.size + 2) l 0 (newTr (wr.heap.size + 2) (wr.heap.size + 1) wr.heap.size) w3) :=
                    ⟨hrep3 _ (Nat.le_refl _), newTr_tw _ _ _, rfl, ⟨_, _, rfl, newTr_root _ _ _, rfl, rfl⟩, rfl, rfl, hb3, hb3.size⟩
                  generalize wr.heap.size + 2 = tb at *
                  generalize newTr tb (wr.heap.size + 1) wr.heap.size = T0 at *
                  clear hrep3 hb3 hs3
                  go_wp2_with fail
                  go_loopw [14] (fun iv wx => ∃ j : Nat, j + 1 ≤ l.length ∧ iv = .int .i64 ((j + 1 : Nat) : Int) ∧ Hid (∃ T, DP wr.heap.size wr tb l j T wx)) (fun iv _ => l.length + 1 - (intOf iv).toNat)
                  case atStart => exact ⟨0, by omega, rfl, _, HD0.out⟩
                  case round =>
                    clear HD0
                    obtain ⟨j, hj, rfl, hdp⟩ := hrel
                    obtain ⟨T, hdp⟩ := hdp.out
                    have HDP := Lib.hid hdp
                    clear hdp
                    by_cases hlt : j + 1 < l.length
                    · have hji : ((j + 1 : Nat) : Int) < l.length := by omega
                      have hjc : ((j + 1 : Nat) : Int) ≤ vc := by omega
                      have hj0 : (0 : Int) ≤ ((j + 1 : Nat) : Int) := by omega
                      obtain ⟨n, hn⟩ : ∃ n : Nat, n = j + 1 := ⟨_, rfl⟩
                      rw [← hn] at hji hjc hj0 ⊢
                      have hnl : n ≤ l.length := by omega
                      have hnc : n ≤ vc := by omega
                      go_wp2_with fail
                      go_loop [15, 103] (fun sv idx => ∃ (k : Nat) (q : ByteArray), k ≤ n ∧ idx = .int .i64 k ∧ sv = .string q ∧ Hid (bl q = joinB (l.take k))) (fun _ idx => n - (intOf idx).toNat)
                      case atStart => exact ⟨0, ⟨#[]⟩, Nat.zero_le _, rfl, rfl, rfl⟩
                      case round =>
                        obtain ⟨k, q2, hk, rfl, rfl, hq⟩ := hrel
                        by_cases hkn : k < n
                        · have hkl : k < l.length := by omega
                          obtain ⟨g, rfl, hcell0⟩ := HC3.out k hkl
                          have hcell := hcell0 _ HDP.out.below
                          have HJ : Hid (joinB (l.take (k + 1)) = joinB (l.take k) ++ 47 :: bl l[k]) := by
                            show _ = _
                            rw [List.take_succ_eq_append_getElem hkl, joinB_snoc]
                          have hle := joinB_take_le l (k + 1)
                          rw [HJ.out, ← hq.out, List.length_append, List.length_cons] at hle
                          clear hcell0
                          generalize l[k] = x at *
                          have hsz : q2.size + (1 + x.size) ≤ 100000 := by
                            have h1 : q2.size = (bl q2).length := Lib.size_eq q2
                            have h2 : x.size = (bl x).length := Lib.size_eq x
                            have h3 := HPT.out.2.1
                            have h4 := HPT.out.2.2.1
                            omega
                          have hsz1 : ¬ 9223372036854775807 < 1 + x.size := by omega
                          have hsz2 : ¬ 9223372036854775807 < q2.size + (1 + x.size) := by omega
                          clear hle hsz
                          have hki : (k : Int) < n := by omega
                          go_wp2_with fail
                          go_round
                          case rel => exact ⟨k + 1, _, by omega, by go_num, rfl, by
                            show _ = _
                            rw [HJ.out, ← hq.out, bl_append, bl_append]
                            rfl⟩
                          case measure => simp [intOf]; omega
                        · obtain rfl : k = n := by omega
                          have HMK := Lib.hid (HDP.out.mkdir (HE3.out.below HDP.out.below) HPL.out (by omega) (by omega) q2 (by rw [← hn]; exact hq.out))
                          rw [← hn] at HMK
                          go_wp2_with fail
                          refine HMK.out.mono ?_
                          rintro e w5 ⟨rfl, T5, hdp5⟩
                          have HDP5 := Lib.hid hdp5
                          clear hdp5 HMK HDP
                          go_wp2_with fail
                          go_roundw
                          case rel => exact ⟨k, by omega, by go_num, T5, HDP5.out⟩
                          case measure => simp [intOf]; omega
                    · obtain rfl : j = l.length - 1 := by omega
                      have hji : ¬ ((l.length - 1 + 1 : Nat) : Int) < l.length := by omega
                      have HWR := Lib.hid (HDP.out.write (HE3.out.below HDP.out.below) (fun e => h0 (by rw [e]; rfl)) (by omega) s HCS.out (.slice xa xl.length xc) xl (src_up3 HX3.out HDP.out.below) (src_low3 HX3.out) (by omega))
                      clear HDP
                      go_wp2_with fail
                      refine HWR.out.mono ?_
                      rintro e w5 ⟨rfl, T5, k5, d5, hR5, htb5, hp5, hd5, hdir5, hdata5, hb5, _⟩
                      have HB5 := Lib.hid hb5
                      have HRD : Hid (Calls Tryd.prog 21 #[.pointer (some ⟨tb, 0, none⟩), .string q] w5 fun e w' => ReadOk w5 xl e w') := by
                        subst htb5
                        have hf : T5.fileOf q = .ok k5 := by
                          unfold Tr.fileOf Tr.find
                          rw [HCQ.out]
                          show (match T5.parts l with | .error c => _ | .ok s => _) = _
                          rw [hp5]
                          simp [hd5, hdir5]
                        have h := tree_read q w5 (HE3.out.below HB5.out) hR5 (by omega) k5 d5 hf hd5 (by rw [hdata5]; omega)
                        rw [hdata5] at h
                        exact h
                      clear hR5 htb5 hp5 hd5 hdir5 hdata5 hb5 HWR
                      go_wp2_with fail
                      refine HRD.out.mono ?_
                      rintro e w6 ⟨v6, rfl, hown6, hb6⟩
                      obtain ⟨va6, vc6, rfl⟩ := owns_form hown6
                      have HB6 := Lib.hid (below_trans HB5.out hb6)
                      have q1 := run_str_src (Src.of_owns hown6)
                      have q2 := run_str_src (src_up3 HX3.out HB6.out)
                      have HAW := Lib.hid (awake16_any w6 (HE3.out.below HB6.out))
                      clear hown6 hb6 HRD
                      go_wp2_with fail
                      refine HAW.out.mono ?_
                      rintro e w7 ⟨rfl, hb7⟩
                      have HB7 := Lib.hid (below_trans HB3.out (below_trans HB6.out hb7))
                      clear hb7
                      go_wp2_with fail
                      go_ret
                      exact ⟨rfl, HB7.out⟩
            · have hq1 : 256 < q.size := by rw [HQS.out]; omega
              have hq1i : (256 : Int) < q.size := by omega
              have HAW := Lib.hid (awake16_any w1 (HE.out.below HB1.out))
              clear h256
              go_wp2_with fail
              refine HAW.out.mono ?_
              rintro e w2 ⟨rfl, hb2⟩
              have HB2 := Lib.hid (below_trans HB1.out hb2)
              clear hb2
              go_wp2_with fail
              go_ret
              exact ⟨rfl, HB2.out⟩
    · by_cases h0 : l.length = 0
      · have h0i : (l.length : Int) = 0 := by omega
        have hx1i : (1000 : Int) < xl.length := by omega
        have HAW := Lib.hid (awake16_any w1 (HE.out.below HB1.out))
        go_wp2_with fail
        refine HAW.out.mono ?_
        rintro e w2 ⟨rfl, hb2⟩
        have HB2 := Lib.hid (below_trans HB1.out hb2)
        clear hb2
        go_wp2_with fail
        go_ret
        exact ⟨rfl, HB2.out⟩
      · have h0i : ¬ (l.length : Int) = 0 := by omega
        have hx1i : (1000 : Int) < xl.length := by omega
        go_wp2_with fail
        go_ret
        exact ⟨rfl, HB1.out⟩
end Go.Proofs.YtiejfbkbjahcgaaDoor
