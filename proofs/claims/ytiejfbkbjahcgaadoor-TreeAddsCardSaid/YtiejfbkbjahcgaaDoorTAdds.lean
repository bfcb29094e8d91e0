/-
  TreeAdds's walk: what is added piece by piece is what is written at once.
-/
import Derived.Test.YtiejfbkbjahcgaaDoorCons
import Derived.Test.YtiejfbkbjahcgaaDoorStat
import Derived.Test.YtiejfbkbjahcgaaDoorAwake16
import Derived.Test.YtiejfbkbjahcgaaDoorMoves
namespace Go.Proofs.YtiejfbkbjahcgaaDoor
open Go Go.RowKit

theorem TF.at {B : Nat} {w w' : World} {T : Tr} {nm : ByteArray} {k n : Nat} {l : List UInt8} (h : TF B w T nm k l n) (hr : Rep B w' T) : TF B w' T nm k l n := ⟨hr, h.clock, h.root, h.node⟩

theorem TF.fileOf {B : Nat} {w : World} {T : Tr} {nm : ByteArray} {k n : Nat} {l : List UInt8} (h : TF B w T nm k l n) (hc : clean nm = some [nm]) : T.fileOf nm = .ok k := by
  obtain ⟨d, h1, h2, _⟩ := h.node
  unfold Tr.fileOf
  rw [h.find hc]
  simp [h1, h2]

/-- The two trees and the row that the law keeps. -/
structure AI (B : Nat) (w : World) (T U : Tr) (tb ub : Nat) (av : Value) (l : List UInt8) (wr : World) : Prop where
  repT : Rep B wr T
  tbT : T.tb = tb
  repU : Rep B wr U
  tbU : U.tb = ub
  apart : ∀ x, T.foot x → ¬ U.foot x
  aS : wr.ownsRow B 5 1 av l.length (u8s l)
  aT : ∀ r, av.ownBlock = some r → ¬ T.foot r
  aU : ∀ r, av.ownBlock = some r → ¬ U.foot r
  below : Below B w wr
  base : B ≤ wr.heap.size

section
variable {B : Nat} {w wr w' : World} {T U : Tr} {tb ub : Nat} {av : Value} {l : List UInt8}

theorem AI.next (h : AI B w T U tb ub av l wr) (k : Below wr.heap.size wr w') : AI B w T U tb ub av l w' :=
  ⟨h.repT.below k, h.tbT, h.repU.below k, h.tbU, h.apart, ownsRow_kept h.aS (Kept.of_below k (fun _ => False)) (fun _ _ h => h), h.aT, h.aU, h.below.trans (k.mono h.base), Nat.le_trans h.base k.size⟩

theorem AI.wroteT (h : AI B w T U tb ub av l wr) {T' : Tr} (hr : Rep B w' T') (htb : T'.tb = T.tb) (k : Kept T.foot wr w') (hft : ∀ x, T'.foot x → T.foot x ∨ wr.heap.size ≤ x) : AI B w T' U tb ub av l w' := by
  refine ⟨hr, htb.trans h.tbT, h.repU.kept k (fun x hx hT => h.apart x hT hx), h.tbU, fun x hx hU => ?_, ownsRow_kept h.aS k h.aT, fun r hr' hx => ?_, h.aU, h.below.trans (k.below (fun x hx => h.repT.low x hx) h.base), Nat.le_trans h.base k.size⟩
  · rcases hft x hx with h1 | h1
    · exact h.apart x h1 hU
    · have := h.repU.lt hU; omega
  · rcases hft r hx with h1 | h1
    · exact h.aT r hr' h1
    · have := (h.aS.lt r hr').2; omega
theorem AI.wroteU (h : AI B w T U tb ub av l wr) {U' : Tr} (hr : Rep B w' U') (htb : U'.tb = U.tb) (k : Kept U.foot wr w') (hft : ∀ x, U'.foot x → U.foot x ∨ wr.heap.size ≤ x) : AI B w T U' tb ub av l w' := by
  refine ⟨h.repT.kept k h.apart, h.tbT, hr, htb.trans h.tbU, fun x hT hx => ?_, ownsRow_kept h.aS k h.aU, h.aT, fun r hr' hx => ?_, h.below.trans (k.below (fun x hx => h.repU.low x hx) h.base), Nat.le_trans h.base k.size⟩
  · rcases hft x hx with h1 | h1
    · exact h.apart x hT h1
    · have := h.repT.lt hT; omega
  · rcases hft r hx with h1 | h1
    · exact h.aU r hr' h1
    · have := (h.aS.lt r hr').2; omega
theorem AI.app (h : AI B w T U tb ub av l wr) {v : Value} {b : List UInt8} (hown : w'.ownsRow B 5 1 v (l.length + b.length) (u8s l ++ u8s b)) (hg : wr.grownBy w' av.ownBlock) (hat : v.ownBlock = av.ownBlock ∨ v.ownBlock = some wr.heap.size) :
    AI B w T U tb ub v (l ++ b) w' := by
  have k : Kept (fun x => av.ownBlock = some x) wr w' := (Kept.refl _ wr).grown hg (fun x hx => .inl hx)
  refine ⟨h.repT.kept k (fun x hx hf => h.aT x hf hx), h.tbT, h.repU.kept k (fun x hx hf => h.aU x hf hx), h.tbU, h.apart, by rw [List.length_append, u8s_append]; exact hown, fun r hr hf => ?_, fun r hr hf => ?_, h.below.trans (k.below (fun x hx => (h.aS.lt x hx).1) h.base), Nat.le_trans h.base k.size⟩
  · rcases hat with e | e
    · exact h.aT r (e ▸ hr) hf
    · rw [e] at hr
      have := h.repT.lt hf
      cases hr
      omega
  · rcases hat with e | e
    · exact h.aU r (e ▸ hr) hf
    · rw [e] at hr
      have := h.repU.lt hf
      cases hr
      omega
end

/-- How the first tree stands behind k pieces. -/
def AK (B : Nat) (w : World) (T : Tr) (tb root mb : Nat) (l : List UInt8) (k : Nat) : Prop := (k = 0 ∧ l = [] ∧ T = newTr tb root mb) ∨ (1 ≤ k ∧ ∃ kk, TF B w T fName kk l k)

def AWPost (B : Nat) (w : World) (U : Tr) (tb ub root mb : Nat) (av : Value) (l l' : List UInt8) (k : Nat) (e : Ending) (w' : World) : Prop :=
  e = .returned .nilIface ∧ ∃ T', AI B w T' U tb ub av l w' ∧ AK B w' T' tb root mb l' (k + 1)

theorem adds_write {E : Nat → Addr} {B : Nat} {w wr : World} {T U : Tr} {tb ub root mb : Nat} {av : Value} {l : List UInt8} {k : Nat} (hE : Ctx E B wr) (h : AI B w T U tb ub av l wr) (hk : AK B wr T tb root mb l k) (hk20 : k ≤ 20) (bv : Value) (b : List UInt8) (hb : Src wr bv b) (hbf : 0 < b.length → ∀ x, bv.ownBlock = some x → x < B) (hbl : l.length + b.length ≤ 65536) :
    Calls Tryd.prog 28 #[.pointer (some ⟨tb, 0, none⟩), .string fName, bv, .bool true] wr fun e w' => AWPost B w U tb ub root mb av l (l ++ b) k e w' := by
  have hfoot : 0 < b.length → ∀ x, bv.ownBlock = some x → ¬ T.foot x := fun h0 x hx hf => by
    have h1 := hbf h0 x hx
    have h2 := h.repT.low x hf
    omega
  have htb := h.tbT
  subst htb
  rcases hk with ⟨rfl, rfl, hT⟩ | ⟨hk1, kk, hTF⟩
  · have hR := h.repT
    rw [hT] at hR hfoot
    have hw := write_first (tb := T.tb) fName clean_f (by decide) bv b true wr hE hR hb hfoot (by simpa using hbl)
    refine hw.mono ?_
    rintro e w' ⟨rfl, T', kk, ht, hf, hk, hft⟩
    rw [← hT] at hk hft ht
    refine ⟨rfl, T', h.wroteT hf.rep ht hk hft, .inr ⟨Nat.le_refl _, kk, ?_⟩⟩
    rw [List.nil_append]
    exact hf
  · refine (write_more fName clean_f (by decide) bv b wr hE hTF (by omega) hb hfoot hbl).mono ?_
    rintro e w' ⟨rfl, T', kk, ht, hf, hk, hft⟩
    exact ⟨rfl, T', h.wroteT hf.rep ht hk hft, .inr ⟨Nat.le_add_left 1 k, kk, hf⟩⟩

theorem src_low {w : World} {v : Value} {l : List UInt8} (h : Src w v l) : 0 < l.length → ∀ x, v.ownBlock = some x → x < w.heap.size := fun hl x hx => by
  obtain ⟨b, h1, h2⟩ := h.lt hl
  rw [h1] at hx
  cases hx
  exact h2

def TNow (n : Int) (w : World) (e : Ending) (w' : World) : Prop := e = .returned (.int .i64 n) ∧ w' = w
theorem now_tf {B : Nat} {w : World} {T : Tr} {nm : ByteArray} {k n : Nat} {l : List UInt8} (h : TF B w T nm k l n) : Calls Tryd.prog 30 #[.pointer (some ⟨T.tb, 0, none⟩)] w fun e w' => TNow n w e w' := by
  have h1 := h.rep.tree
  rw [h.clock] at h1
  exact tree_now _ _ _ _ w h1

theorem stat_tf {E : Nat → Addr} {B : Nat} {w : World} {T : Tr} {k n : Nat} {l : List UInt8} (hE : Ctx E B w) (h : TF B w T fName k l n) (hl : l.length ≤ 65536) : Calls Tryd.prog 29 #[.pointer (some ⟨T.tb, 0, none⟩), .string fName] w fun e w' => StatPost w (statV 1 l.length 1 n) e w' := by
  obtain ⟨d, h1, h2, h3, h4, h5⟩ := h.node
  subst h3
  have hs := stat_file fName w hE h.rep (by decide) _ (h.find clean_f) k d rfl h1 h2 hl
  rw [h4, h5] at hs
  exact hs
theorem read_tf {E : Nat → Addr} {B : Nat} {w : World} {T : Tr} {k n : Nat} {l : List UInt8} (hE : Ctx E B w) (h : TF B w T fName k l n) (hl : l.length ≤ 65536) : Calls Tryd.prog 21 #[.pointer (some ⟨T.tb, 0, none⟩), .string fName] w fun e w' => ReadOk w l e w' := by
  obtain ⟨d, h1, h2, h3, h4, h5⟩ := h.node
  subst h3
  exact tree_read fName w hE h.rep (by decide) k d (h.fileOf clean_f) h1 (by omega)

/-- Both trees, each with its file. -/
def AF (B : Nat) (w : World) (T U : Tr) (tb ub : Nat) (av : Value) (l : List UInt8) (k kt ku : Nat) (wr : World) : Prop := AI B w T U tb ub av l wr ∧ TF B wr T fName kt l k ∧ TF B wr U fName ku l 1
theorem AF.next {B : Nat} {w wr w' : World} {T U : Tr} {tb ub : Nat} {av : Value} {l : List UInt8} {k kt ku : Nat} (h : AF B w T U tb ub av l k kt ku wr) (hb : Below wr.heap.size wr w') : AF B w T U tb ub av l k kt ku w' :=
  ⟨h.1.next hb, h.2.1.at (h.1.repT.below hb), h.2.2.at (h.1.repU.below hb)⟩
theorem AF.made {B : Nat} {w wr w' : World} {T U : Tr} {tb ub : Nat} {av : Value} {l : List UInt8} {k kt : Nat} {e : Ending} (h : AI B w T U tb ub av l wr) (ht : TF B wr T fName kt l k) (hu : TF1 B wr U fName l 1 e w') : e = .returned .nilIface ∧ ∃ U' ku, AF B w T U' tb ub av l k kt ku w' := by
  obtain ⟨rfl, U', ku, h1, h2, h3, h4⟩ := hu
  have ha := h.wroteU h2.rep h1 h3 h4
  exact ⟨rfl, U', ku, ha, ht.at ha.repT, h2⟩

set_option maxRecDepth 100000 in
set_option maxHeartbeats 4000000 in
theorem treeAdds_any {E : Nat → Addr} {B0 : Nat} (w : World) (hE : Ctx E B0 w)
    (la : Option Addr) (lc : Nat) (ll : List (List UInt8)) (hl : BBSrc w (.slice la ll.length lc) ll) (_hll : ll.length ≤ 9223372036854775807) :
    Calls Tryd.prog 7 #[.slice la ll.length lc] w fun e w' => AwPost w e w' := by
  have HE := Lib.hid hE.raise
  have HL := Lib.hid hl
  clear hE hl
  go_enter Tryd.func7, Tryd.ntmps7
  go_wp2_with fail
  refine (tree_new w).mono ?_
  intro e w1 hp
  obtain ⟨rfl, hrep1, hb1, hs1⟩ := hp
  have HR1 := Lib.hid (hrep1 w.heap.size (Nat.le_refl _))
  have HB1 := Lib.hid hb1
  clear hrep1 hb1 hs1
  go_wp2_with fail
  refine (tree_new w1).mono ?_
  intro e w2 hp
  obtain ⟨rfl, hrep2, hb2, hs2⟩ := hp
  obtain ⟨tb, htb⟩ : ∃ tb, tb = w.heap.size + 2 := ⟨_, rfl⟩
  obtain ⟨ub, hub⟩ : ∃ ub, ub = w1.heap.size + 2 := ⟨_, rfl⟩
  have HA0 : Hid (AI w.heap.size w (newTr tb (w.heap.size + 1) w.heap.size) (newTr ub (w1.heap.size + 1) w1.heap.size) tb ub (.slice none 0 0) [] w2) := by
    subst htb hub
    refine ⟨HR1.out.below hb2, rfl, hrep2 _ HB1.out.size, rfl, fun x hx hU => ?_, World.ownsRow_nil _ _ _ _, fun _ h => (by cases h), fun _ h => (by cases h), below_trans HB1.out hb2, Nat.le_trans HB1.out.size hb2.size⟩
    have h1 := HR1.out.lt hx
    rcases newTr_foot hU with rfl | rfl | rfl <;> omega
  rw [← htb, ← hub]
  clear hrep2 hb2 hs2 HR1 HB1 htb hub
  generalize w1.heap.size + 1 = um1 at *
  generalize w1.heap.size = um at *
  generalize hrt : w.heap.size + 1 = rt at *
  clear hrt
  go_wp2_with fail
  go_loopw [5, 6, 19] (fun av nv idx wr => ∃ (k : Nat) (l : List UInt8), k ≤ ll.length ∧ k ≤ 20 ∧ l.length ≤ 1000 * k ∧ nv = .int .i64 k ∧ idx = .int .i64 k ∧ Hid (∃ T, AI w.heap.size w T (newTr ub um1 um) tb ub av l wr ∧ AK w.heap.size wr T tb rt w.heap.size l k)) (fun _ _ idx _ => ll.length - (intOf idx).toNat)
  case atStart => exact ⟨0, [], Nat.zero_le _, by decide, by simp, rfl, rfl, _, HA0.out, .inl ⟨rfl, rfl, rfl⟩⟩
  case round =>
    clear HA0
    obtain ⟨k, l, hk, hk20, hlk, rfl, rfl, hai⟩ := hrel
    obtain ⟨T, hai, hak⟩ := hai.out
    have HAI := Lib.hid hai
    have HAK := Lib.hid hak
    clear hai hak
    obtain ⟨oa, oc, rfl⟩ := owns_form HAI.out.aS
    by_cases hgo : ∃ h : k < ll.length, k < 20 ∧ ll[k].length ≤ 1000
    · obtain ⟨hlt, h20, h1000⟩ := hgo
      have hki : (k : Int) < ll.length := by omega
      have hk20i : (k : Int) < 20 := by omega
      obtain ⟨ad, ra, rc, rfl, hcell, hsrc⟩ := rows_at HL.out HAI.out.below hlt
      obtain ⟨b, hb⟩ : ∃ b, b = ll[k] := ⟨_, rfl⟩
      rw [← hb] at hcell hsrc h1000
      clear hb
      have hbi : (b.length : Int) ≤ 1000 := by omega
      have HB := Lib.hid hsrc
      clear hsrc
      have HW : Hid (Calls Tryd.prog 28 #[.pointer (some ⟨tb, 0, none⟩), .string fName, .slice ra b.length rc, .bool true] wr fun e w' => AWPost w.heap.size w (newTr ub um1 um) tb ub rt w.heap.size (.slice oa l.length oc) l (l ++ b) k e w') :=
        adds_write (HE.out.below HAI.out.below) HAI.out HAK.out hk20 _ b (src_up HB.out HAI.out.below) (src_low HB.out) (by omega)
      go_wp2_with fail
      refine HW.out.mono ?_
      rintro e w3 ⟨rfl, T3, hai3, hak3⟩
      have HAI3 := Lib.hid hai3
      have HAK3 := Lib.hid hak3
      have HB3 := Lib.hid (src_up HB.out hai3.below)
      clear hai3 hak3 HAI HAK HW
      go_wp2_with (at_builtin; refine wpList_append_src_at rfl _ _ rfl w.heap.size (.slice oa l.length oc) l.length (u8s l) rfl HAI3.out.aS (.slice ra b.length rc) b rfl HB3.out (by omega) HAI3.out.base ?_)
      intro v' w4 hown hg hat
      have HAI4 := Lib.hid (HAI3.out.app hown hg hat)
      have HAK4 : Hid (AK w.heap.size w4 T3 tb rt w.heap.size (l ++ b) (k + 1)) := by
        rcases HAK3.out with ⟨h0, _⟩ | ⟨h1, kk, hf⟩
        · omega
        · exact .inr ⟨h1, kk, hf.at HAI4.out.repT⟩
      clear hown hg hat HAI3 HAK3 HB3
      go_wp2_with fail
      go_roundw
      case rel => exact ⟨k + 1, l ++ b, by omega, by omega, by rw [List.length_append]; omega, by go_num, by go_num, T3, HAI4.out, HAK4.out⟩
      case measure => simp [intOf]; omega
    · rcases Nat.eq_zero_or_pos k with hk0 | hk0
      · have hk0i : (k : Int) = 0 := by omega
        have HAW := Lib.hid (awake16_any wr (HE.out.below HAI.out.below))
        by_cases hlt : k < ll.length
        · have hki : (k : Int) < ll.length := by omega
          obtain ⟨ad, ra, rc, rfl, hcell, hsrc⟩ := rows_at HL.out HAI.out.below hlt
          clear hsrc
          have hlong : ¬ ll[k].length ≤ 1000 := fun h => hgo ⟨hlt, by omega, h⟩
          generalize ll[k] = b at hcell hlong
          have hlongi : (1000 : Int) < b.length := by omega
          rw [show ad.add k = ad by rw [hk0]; unfold Addr.add; simp] at hcell
          have hpos : 0 < ll.length := by omega
          go_wp2_with fail
          refine HAW.out.mono ?_
          rintro e w3 ⟨rfl, hb3⟩
          have HB3 := Lib.hid (below_trans HAI.out.below hb3)
          clear hb3
          go_wp2_with fail
          go_ret
          exact ⟨rfl, HB3.out⟩
        · have hki : ll.length = 0 := by omega
          have hkj : (ll.length : Int) = 0 := by omega
          go_wp2_with fail
          refine HAW.out.mono ?_
          rintro e w3 ⟨rfl, hb3⟩
          have HB3 := Lib.hid (below_trans HAI.out.below hb3)
          clear hb3
          go_wp2_with fail
          go_ret
          exact ⟨rfl, HB3.out⟩
      · have hk0i : ¬ (k : Int) = 0 := by omega
        have HTF0 : Hid (∃ kk, TF w.heap.size wr T fName kk l k) := by
          rcases HAK.out with ⟨h0, _⟩ | ⟨h1, h2⟩
          · omega
          · exact h2
        obtain ⟨kt, hkt⟩ := HTF0.out
        have HTF := Lib.hid hkt
        have HUW : Hid (Calls Tryd.prog 28 #[.pointer (some ⟨ub, 0, none⟩), .string fName, .slice oa l.length oc, .bool false] wr fun e w' => TF1 w.heap.size wr (newTr ub um1 um) fName l 1 e w') :=
          write_first fName clean_f (by decide) _ l false wr (HE.out.below HAI.out.below) HAI.out.repU (Src.of_owns HAI.out.aS) (fun _ x hx => HAI.out.aU x hx) (by omega)
        clear hkt HTF0 HAK
        by_cases hlt : k < ll.length
        · have hki : (k : Int) < ll.length := by omega
          obtain ⟨ad, ra, rc, rfl, hcell, hsrc⟩ := rows_at HL.out HAI.out.below hlt
          clear hsrc
          by_cases h20 : k < 20
          · have hk20i : (k : Int) < 20 := by omega
            have hlong : ¬ ll[k].length ≤ 1000 := fun h => hgo ⟨hlt, h20, h⟩
            generalize ll[k] = b at hcell hlong
            have hlongi : (1000 : Int) < b.length := by omega
            go_wp2_with fail
            refine HUW.out.mono ?_
            intro e w3 hp
            obtain ⟨rfl, U, ku, haf⟩ := AF.made HAI.out HTF.out hp
            have HAF := Lib.hid haf
            have HR1 : Hid (Calls Tryd.prog 21 #[.pointer (some ⟨tb, 0, none⟩), .string fName] w3 fun e w' => ReadOk w3 l e w') := by
              have h := read_tf (HE.out.below haf.1.below) haf.2.1 (by omega)
              rw [haf.1.tbT] at h
              exact h
            clear haf hp HUW
            go_wp2_with fail
            refine HR1.out.mono ?_
            rintro e w4 ⟨v4, rfl, hown4, hb4⟩
            have HAF4 := Lib.hid (HAF.out.next hb4)
            obtain ⟨va4, vc4, rfl⟩ := owns_form hown4
            have HS4 := Lib.hid (Src.of_owns hown4)
            have HR2 : Hid (Calls Tryd.prog 21 #[.pointer (some ⟨ub, 0, none⟩), .string fName] w4 fun e w' => ReadOk w4 l e w') := by
              have h := read_tf (HE.out.below HAF4.out.1.below) HAF4.out.2.2 (by omega)
              rw [HAF4.out.1.tbU] at h
              exact h
            clear hown4 hb4 HAF HR1
            go_wp2_with fail
            refine HR2.out.mono ?_
            rintro e w5 ⟨v5, rfl, hown5, hb5⟩
            have HAF5 := Lib.hid (HAF4.out.next hb5)
            obtain ⟨va5, vc5, rfl⟩ := owns_form hown5
            have HS5 := Lib.hid (Src.of_owns hown5)
            have HS45 := Lib.hid (src_up HS4.out hb5)
            have HST : Hid (Calls Tryd.prog 29 #[.pointer (some ⟨tb, 0, none⟩), .string fName] w5 fun e w' => StatPost w5 (statV 1 l.length 1 k) e w') := by
              have h := stat_tf (HE.out.below HAF5.out.1.below) HAF5.out.2.1 (by omega)
              rw [HAF5.out.1.tbT] at h
              exact h
            clear hown5 hb5 HAF4 HS4 HR2
            go_wp2_with fail
            refine HST.out.mono ?_
            rintro e w6 ⟨rfl, hb6⟩
            have HAF6 := Lib.hid (HAF5.out.next (below_trans hb6 (below_alloc w6 (.cells #[.int .i64 1, .int .i64 l.length, .int .i64 1, .int .i64 k] 52))))
            have hbx := below_trans hb6 (below_alloc w6 (.cells #[.int .i64 1, .int .i64 l.length, .int .i64 1, .int .i64 k] 52))
            have q1 := run_str_src (src_up HS45.out hbx)
            have q2 := run_str_src (src_up HS5.out hbx)
            have q3 := run_str_src (Src.of_owns HAF6.out.1.aS)
            have HN1 : Hid (Calls Tryd.prog 30 #[.pointer (some ⟨tb, 0, none⟩)] (w6.alloc (.cells #[.int .i64 1, .int .i64 l.length, .int .i64 1, .int .i64 k] 52)) fun e w' => TNow k (w6.alloc (.cells #[.int .i64 1, .int .i64 l.length, .int .i64 1, .int .i64 k] 52)) e w') := by
              have h := now_tf HAF6.out.2.1
              rw [HAF6.out.1.tbT] at h
              exact h
            have HN2 : Hid (Calls Tryd.prog 30 #[.pointer (some ⟨ub, 0, none⟩)] (w6.alloc (.cells #[.int .i64 1, .int .i64 l.length, .int .i64 1, .int .i64 k] 52)) fun e w' => TNow 1 (w6.alloc (.cells #[.int .i64 1, .int .i64 l.length, .int .i64 1, .int .i64 k] 52)) e w') := by
              have h := now_tf HAF6.out.2.2
              rw [HAF6.out.1.tbU] at h
              exact h
            have HAW6 := Lib.hid (awake16_any (w6.alloc (.cells #[.int .i64 1, .int .i64 l.length, .int .i64 1, .int .i64 k] 52)) (HE.out.below HAF6.out.1.below))
            have HB6 := Lib.hid HAF6.out.1.below
            clear hb6 hbx HAF5 HAF6 HS45 HS5 HST
            unfold statV
            go_wp2_with fail
            refine HN1.out.mono ?_
            rintro e w7 ⟨rfl, rfl⟩
            go_wp2_with fail
            refine HN2.out.mono ?_
            rintro e w8 ⟨rfl, rfl⟩
            go_wp2_with fail
            refine HAW6.out.mono ?_
            rintro e w9 ⟨rfl, hb9⟩
            have HB9 := Lib.hid (below_trans HB6.out hb9)
            clear hb9
            go_wp2_with fail
            go_ret
            exact ⟨rfl, HB9.out⟩
          · have hk20i : (20 : Int) ≤ k := by omega
            generalize ll[k] = b at hcell
            go_wp2_with fail
            refine HUW.out.mono ?_
            intro e w3 hp
            obtain ⟨rfl, U, ku, haf⟩ := AF.made HAI.out HTF.out hp
            have HAF := Lib.hid haf
            have HR1 : Hid (Calls Tryd.prog 21 #[.pointer (some ⟨tb, 0, none⟩), .string fName] w3 fun e w' => ReadOk w3 l e w') := by
              have h := read_tf (HE.out.below haf.1.below) haf.2.1 (by omega)
              rw [haf.1.tbT] at h
              exact h
            clear haf hp HUW
            go_wp2_with fail
            refine HR1.out.mono ?_
            rintro e w4 ⟨v4, rfl, hown4, hb4⟩
            have HAF4 := Lib.hid (HAF.out.next hb4)
            obtain ⟨va4, vc4, rfl⟩ := owns_form hown4
            have HS4 := Lib.hid (Src.of_owns hown4)
            have HR2 : Hid (Calls Tryd.prog 21 #[.pointer (some ⟨ub, 0, none⟩), .string fName] w4 fun e w' => ReadOk w4 l e w') := by
              have h := read_tf (HE.out.below HAF4.out.1.below) HAF4.out.2.2 (by omega)
              rw [HAF4.out.1.tbU] at h
              exact h
            clear hown4 hb4 HAF HR1
            go_wp2_with fail
            refine HR2.out.mono ?_
            rintro e w5 ⟨v5, rfl, hown5, hb5⟩
            have HAF5 := Lib.hid (HAF4.out.next hb5)
            obtain ⟨va5, vc5, rfl⟩ := owns_form hown5
            have HS5 := Lib.hid (Src.of_owns hown5)
            have HS45 := Lib.hid (src_up HS4.out hb5)
            have HST : Hid (Calls Tryd.prog 29 #[.pointer (some ⟨tb, 0, none⟩), .string fName] w5 fun e w' => StatPost w5 (statV 1 l.length 1 k) e w') := by
              have h := stat_tf (HE.out.below HAF5.out.1.below) HAF5.out.2.1 (by omega)
              rw [HAF5.out.1.tbT] at h
              exact h
            clear hown5 hb5 HAF4 HS4 HR2
            go_wp2_with fail
            refine HST.out.mono ?_
            rintro e w6 ⟨rfl, hb6⟩
            have HAF6 := Lib.hid (HAF5.out.next (below_trans hb6 (below_alloc w6 (.cells #[.int .i64 1, .int .i64 l.length, .int .i64 1, .int .i64 k] 52))))
            have hbx := below_trans hb6 (below_alloc w6 (.cells #[.int .i64 1, .int .i64 l.length, .int .i64 1, .int .i64 k] 52))
            have q1 := run_str_src (src_up HS45.out hbx)
            have q2 := run_str_src (src_up HS5.out hbx)
            have q3 := run_str_src (Src.of_owns HAF6.out.1.aS)
            have HN1 : Hid (Calls Tryd.prog 30 #[.pointer (some ⟨tb, 0, none⟩)] (w6.alloc (.cells #[.int .i64 1, .int .i64 l.length, .int .i64 1, .int .i64 k] 52)) fun e w' => TNow k (w6.alloc (.cells #[.int .i64 1, .int .i64 l.length, .int .i64 1, .int .i64 k] 52)) e w') := by
              have h := now_tf HAF6.out.2.1
              rw [HAF6.out.1.tbT] at h
              exact h
            have HN2 : Hid (Calls Tryd.prog 30 #[.pointer (some ⟨ub, 0, none⟩)] (w6.alloc (.cells #[.int .i64 1, .int .i64 l.length, .int .i64 1, .int .i64 k] 52)) fun e w' => TNow 1 (w6.alloc (.cells #[.int .i64 1, .int .i64 l.length, .int .i64 1, .int .i64 k] 52)) e w') := by
              have h := now_tf HAF6.out.2.2
              rw [HAF6.out.1.tbU] at h
              exact h
            have HAW6 := Lib.hid (awake16_any (w6.alloc (.cells #[.int .i64 1, .int .i64 l.length, .int .i64 1, .int .i64 k] 52)) (HE.out.below HAF6.out.1.below))
            have HB6 := Lib.hid HAF6.out.1.below
            clear hb6 hbx HAF5 HAF6 HS45 HS5 HST
            unfold statV
            go_wp2_with fail
            refine HN1.out.mono ?_
            rintro e w7 ⟨rfl, rfl⟩
            go_wp2_with fail
            refine HN2.out.mono ?_
            rintro e w8 ⟨rfl, rfl⟩
            go_wp2_with fail
            refine HAW6.out.mono ?_
            rintro e w9 ⟨rfl, hb9⟩
            have HB9 := Lib.hid (below_trans HB6.out hb9)
            clear hb9
            go_wp2_with fail
            go_ret
            exact ⟨rfl, HB9.out⟩
        · have hki : (ll.length : Int) ≤ k := by omega
          go_wp2_with fail
          refine HUW.out.mono ?_
          intro e w3 hp
          obtain ⟨rfl, U, ku, haf⟩ := AF.made HAI.out HTF.out hp
          have HAF := Lib.hid haf
          have HR1 : Hid (Calls Tryd.prog 21 #[.pointer (some ⟨tb, 0, none⟩), .string fName] w3 fun e w' => ReadOk w3 l e w') := by
            have h := read_tf (HE.out.below haf.1.below) haf.2.1 (by omega)
            rw [haf.1.tbT] at h
            exact h
          clear haf hp HUW
          go_wp2_with fail
          refine HR1.out.mono ?_
          rintro e w4 ⟨v4, rfl, hown4, hb4⟩
          have HAF4 := Lib.hid (HAF.out.next hb4)
          obtain ⟨va4, vc4, rfl⟩ := owns_form hown4
          have HS4 := Lib.hid (Src.of_owns hown4)
          have HR2 : Hid (Calls Tryd.prog 21 #[.pointer (some ⟨ub, 0, none⟩), .string fName] w4 fun e w' => ReadOk w4 l e w') := by
            have h := read_tf (HE.out.below HAF4.out.1.below) HAF4.out.2.2 (by omega)
            rw [HAF4.out.1.tbU] at h
            exact h
          clear hown4 hb4 HAF HR1
          go_wp2_with fail
          refine HR2.out.mono ?_
          rintro e w5 ⟨v5, rfl, hown5, hb5⟩
          have HAF5 := Lib.hid (HAF4.out.next hb5)
          obtain ⟨va5, vc5, rfl⟩ := owns_form hown5
          have HS5 := Lib.hid (Src.of_owns hown5)
          have HS45 := Lib.hid (src_up HS4.out hb5)
          have HST : Hid (Calls Tryd.prog 29 #[.pointer (some ⟨tb, 0, none⟩), .string fName] w5 fun e w' => StatPost w5 (statV 1 l.length 1 k) e w') := by
            have h := stat_tf (HE.out.below HAF5.out.1.below) HAF5.out.2.1 (by omega)
            rw [HAF5.out.1.tbT] at h
            exact h
          clear hown5 hb5 HAF4 HS4 HR2
          go_wp2_with fail
          refine HST.out.mono ?_
          rintro e w6 ⟨rfl, hb6⟩
          have HAF6 := Lib.hid (HAF5.out.next (below_trans hb6 (below_alloc w6 (.cells #[.int .i64 1, .int .i64 l.length, .int .i64 1, .int .i64 k] 52))))
          have hbx := below_trans hb6 (below_alloc w6 (.cells #[.int .i64 1, .int .i64 l.length, .int .i64 1, .int .i64 k] 52))
          have q1 := run_str_src (src_up HS45.out hbx)
          have q2 := run_str_src (src_up HS5.out hbx)
          have q3 := run_str_src (Src.of_owns HAF6.out.1.aS)
          have HN1 : Hid (Calls Tryd.prog 30 #[.pointer (some ⟨tb, 0, none⟩)] (w6.alloc (.cells #[.int .i64 1, .int .i64 l.length, .int .i64 1, .int .i64 k] 52)) fun e w' => TNow k (w6.alloc (.cells #[.int .i64 1, .int .i64 l.length, .int .i64 1, .int .i64 k] 52)) e w') := by
            have h := now_tf HAF6.out.2.1
            rw [HAF6.out.1.tbT] at h
            exact h
          have HN2 : Hid (Calls Tryd.prog 30 #[.pointer (some ⟨ub, 0, none⟩)] (w6.alloc (.cells #[.int .i64 1, .int .i64 l.length, .int .i64 1, .int .i64 k] 52)) fun e w' => TNow 1 (w6.alloc (.cells #[.int .i64 1, .int .i64 l.length, .int .i64 1, .int .i64 k] 52)) e w') := by
            have h := now_tf HAF6.out.2.2
            rw [HAF6.out.1.tbU] at h
            exact h
          have HAW6 := Lib.hid (awake16_any (w6.alloc (.cells #[.int .i64 1, .int .i64 l.length, .int .i64 1, .int .i64 k] 52)) (HE.out.below HAF6.out.1.below))
          have HB6 := Lib.hid HAF6.out.1.below
          clear hb6 hbx HAF5 HAF6 HS45 HS5 HST
          unfold statV
          go_wp2_with fail
          refine HN1.out.mono ?_
          rintro e w7 ⟨rfl, rfl⟩
          go_wp2_with fail
          refine HN2.out.mono ?_
          rintro e w8 ⟨rfl, rfl⟩
          go_wp2_with fail
          refine HAW6.out.mono ?_
          rintro e w9 ⟨rfl, hb9⟩
          have HB9 := Lib.hid (below_trans HB6.out hb9)
          clear hb9
          go_wp2_with fail
          go_ret
          exact ⟨rfl, HB9.out⟩
end Go.Proofs.YtiejfbkbjahcgaaDoor
