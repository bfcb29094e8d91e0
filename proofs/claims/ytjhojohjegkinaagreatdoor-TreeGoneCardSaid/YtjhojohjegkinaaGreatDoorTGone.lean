/-
  TreeGone's walk.
-/
import Derived.Test.YtjhojohjegkinaaGreatDoorStatX
import Derived.Test.YtjhojohjegkinaaGreatDoorBareW
import Derived.Test.YtjhojohjegkinaaGreatDoorBothA
import Derived.Test.YtjhojohjegkinaaGreatDoorAwake16
namespace Go.Proofs.YtjhojohjegkinaaGreatDoor
open Go Go.RowKit

theorem bare_txt {T : Tr} (h : TxT T) (w : World) : Calls Tryz.prog 21 #[.string ⟨T.txt.toArray⟩] w fun e w' => VPost w (.string ⟨(bareL T.txt).toArray⟩) e w' := by
  have h1 := bare_any ⟨T.txt.toArray⟩ w (by have := h.len; show T.txt.toArray.size ≤ _; rw [List.size_toArray]; exact this)
  rwa [show bl ⟨T.txt.toArray⟩ = T.txt from bl_mkB T.txt] at h1
theorem bare_same {T T' : Tr} (h : TxT T') (he : bareL T'.txt = bareL T.txt) (w : World) : Calls Tryz.prog 21 #[.string ⟨T'.txt.toArray⟩] w fun e w' => VPost w (.string ⟨(bareL T.txt).toArray⟩) e w' := by
  have := bare_txt h w
  rwa [he] at this

/-- A row of made and taken away. -/
structure Went (T T1 T2 : Tr) : Prop where
  bare : Bare T T2
  clock : T2.clock = T.clock + 2
  count : T2.count = T.count
theorem went {T T1 T2 : Tr} {s : ByteArray} {dir : Bool} {b : List UInt8} (hI : TI T) (hI1 : TI T1) (h1 : PGrown T T1 s dir b) (h2 : PPruned T1 T2 s) : Went T T1 T2 := by
  obtain ⟨a, b, c, _⟩ := gone_bare hI hI1 h1 h2
  exact ⟨a, b, c⟩

set_option maxRecDepth 100000 in
set_option maxHeartbeats 4000000 in
theorem treeGone_any {E : Nat → Addr} {B0 : Nat} (w : World) (hE : Ctx E B0 w) (va : Option Addr) (vc : Nat) (l : List OpA) (hl : OSrc w (.slice va l.length vc) l) (hll : l.length ≤ 9223372036854775807) (hok : ∀ x ∈ l, OpOk x)
    (path : ByteArray) (hpz : path.size ≤ 9223372036854775807) (dir : Bool) :
    Calls Tryz.prog 3 #[.slice va l.length vc, .string path, .bool dir] w fun e w' => AwPost w e w' := by
  have HE := Lib.hid hE.raise
  have HM := Lib.hid (made_any w hE _ l hl hok hll)
  have HPZ := Lib.hid hpz
  clear hE hl hok hpz hll
  go_enter Tryz.func3, Tryz.ntmps3
  go_wp2_with fail
  refine HM.out.mono ?_
  rintro e w1 ⟨T, R, f, rfl, hb, hbl⟩
  have HPT : Hid (PT w.heap.size w w1 T 100000) := PT.of_both hb (by omega) hbl
  have HTX : Hid (TxT T) := hb.txt (by omega)
  have HXB : Hid (TxB T) := hb.txb
  have hc0 := HPT.out.tm.clk0
  have hc1 := HPT.out.tm.clk1
  clear hb hbl HM
  go_wp2_with fail
  refine (HTX.out.text HPT.out.rep).mono ?_
  rintro e w2 ⟨rfl, hb2⟩
  have HPT2 := Lib.hid (HPT.out.next hb2)
  clear hb2 HPT
  go_wp2_with fail
  refine (HPT2.out.now).mono ?_
  rintro e w3 ⟨rfl, rfl⟩
  go_wp2_with fail
  refine (stat_any path w3 (HE.out.below HPT2.out.below) HPT2.out.rep HPT2.out.ti HPZ.out).mono ?_
  intro e w4 hp
  obtain ⟨vk, vs, vl, vt, hv⟩ := vStat_form T path
  rw [hv] at hp
  clear hv
  rcases id hp with ⟨hcs, a, rfl, _, hb4⟩ | ⟨_, rfl, hb4⟩
  · have HP4 := Lib.hid (fun o => (HPT2.out.next hb4).next (below_alloc w4 o))
    have HI0 : Hid (TI T) := HPT2.out.ti
    have HTM0 : Hid (TM T 100000) := HPT2.out.tm
    have HCS := Lib.hid hcs
    clear hb4 HPT2 hcs hp
    unfold statV
    go_wp2_with fail
    refine (write_any path (.slice none 0 0) [] false _ (HE.out.below (HP4.out _).below) (HP4.out _).rep HI0.out (HTM0.out.num (by decide)) HPZ.out (.inl ⟨rfl, rfl⟩) (fun h => by simp at h)).mono ?_
    intro e w5 hp
    rcases (HP4.out _).ans hp (fun T' h => ⟨h.ti HI0.out, h.tm HTM0.out⟩) with ⟨hc, ⟨a, rfl⟩, h5⟩ | ⟨hc, rfl, T1, htb, hP, h5⟩
    · have HPT5 := Lib.hid h5
      clear hp hc h5 HP4
      cases dir
      all_goals
        go_wp2_with fail
        refine (HTX.out.text HPT5.out.rep).mono ?_
        rintro e w6 ⟨rfl, hb6⟩
        have HPT6 := Lib.hid (HPT5.out.next hb6)
        clear hb6
        go_wp2_with fail
        refine (awake16_any w6 (HE.out.below HPT6.out.below)).mono ?_
        rintro e w7 ⟨rfl, hb7⟩
        have HB7 := Lib.hid (below_trans HPT6.out.below hb7)
        clear hb7
        go_wp2_with fail
        go_ret
        exact ⟨rfl, HB7.out⟩
    · have HG : Hid (PGrown T T1 path false []) := hP.new HCS.out
      have HCT : Hid (T.count < 200) := cWrite_count hc HCS.out
      have HPT5 := Lib.hid h5
      have HTB := Lib.hid htb
      have hct0 := HTM0.out.cnt0
      have HCT1 : Hid (1 ≤ T1.count) := by have := HG.out.count.1; show _ ≤ _; omega
      clear hp hc h5 hP htb HP4 HCS hct0
      have HRM : Hid (Calls Tryz.prog 19 #[.pointer (some ⟨T.tb, 0, none⟩), .string path] w5 fun e w' => TAns E w.heap.size w5 T1 0 (fun T' => PPruned T1 T' path) e w') := by
        have h := remove_any path w5 (HE.out.below HPT5.out.below) HPT5.out.rep HPT5.out.ti (HPT5.out.tm.num (by decide)) HPZ.out
        rw [HTB.out, HG.out.cRemove HI0.out] at h
        exact h
      cases dir
      · go_wp2_with fail
        refine HRM.out.mono ?_
        intro e w6 hp
        rcases HPT5.out.ans hp (fun T' h => ⟨h.ti HPT5.out.ti, h.tm HPT5.out.ti HPT5.out.tm HCT1.out (HG.out.links HI0.out)⟩) with ⟨h0, _⟩ | ⟨_, rfl, T2, htb2, hP2, h6⟩
        · exact absurd rfl h0
        have HW : Hid (Went T T1 T2) := went HI0.out HPT5.out.ti HG.out hP2
        have HPT6 := Lib.hid h6
        have HTB2 : Hid (T2.tb = T.tb) := htb2.trans HTB.out
        have HX2 : Hid (TxT T2) := (HW.out.bare.txb HXB.out HI0.out.tw HPT6.out.ti.tw).txt HPT6.out.ti HPT6.out.tm (by decide)
        have HSM : Hid (bareL T2.txt = bareL T.txt) := HW.out.bare.text HI0.out.tw HPT6.out.ti.tw HXB.out.deep (HW.out.bare.deep HXB.out HPT6.out.ti.tw)
        have hck := HW.out.clock
        have HNOW : Hid (Calls Tryz.prog 15 #[.pointer (some ⟨T.tb, 0, none⟩)] w6 fun e w' => e = .returned (.int .i64 (T.clock + 2)) ∧ w' = w6) := by
          have := HPT6.out.now
          rw [hck, HTB2.out] at this
          exact this
        have HTT : Hid (Calls Tryz.prog 14 #[.pointer (some ⟨T.tb, 0, none⟩)] w6 fun e w' => TTextPost T2.txt w6 e w') := by
          have := HX2.out.text HPT6.out.rep
          rw [HTB2.out] at this
          exact this
        clear hp h6 hP2 htb2 hck HPT5 HRM HCT1 HCT
        go_wp2_with fail
        refine HNOW.out.mono ?_
        rintro e w7 ⟨rfl, rfl⟩
        go_wp2_with fail
        refine HTT.out.mono ?_
        rintro e w8 ⟨rfl, hb8⟩
        have HPT8 := Lib.hid (HPT6.out.next hb8)
        clear hb8 HPT6
        go_wp2_with fail
        refine (bare_same HX2.out HSM.out w8).mono ?_
        rintro e w9 ⟨rfl, hb9⟩
        have HPT9 := Lib.hid (HPT8.out.next hb9)
        clear hb9 HPT8
        go_wp2_with fail
        refine (bare_txt HTX.out w9).mono ?_
        rintro e w10 ⟨rfl, hb10⟩
        have HPT10 := Lib.hid (HPT9.out.next hb10)
        clear hb10 HPT9
        go_wp2_with fail
        refine (awake16_any w10 (HE.out.below HPT10.out.below)).mono ?_
        rintro e w11 ⟨rfl, hb11⟩
        have HB11 := Lib.hid (below_trans HPT10.out.below hb11)
        clear hb11
        go_wp2_with fail
        go_ret
        exact ⟨rfl, HB11.out⟩
      · go_wp2_with fail
        refine HRM.out.mono ?_
        intro e w6 hp
        rcases HPT5.out.ans hp (fun T' h => ⟨h.ti HPT5.out.ti, h.tm HPT5.out.ti HPT5.out.tm HCT1.out (HG.out.links HI0.out)⟩) with ⟨h0, _⟩ | ⟨_, rfl, T2, htb2, hP2, h6⟩
        · exact absurd rfl h0
        have HW : Hid (Went T T1 T2) := went HI0.out HPT5.out.ti HG.out hP2
        have HPT6 := Lib.hid h6
        have HTB2 : Hid (T2.tb = T.tb) := htb2.trans HTB.out
        have HXB2 : Hid (TxB T2) := HW.out.bare.txb HXB.out HI0.out.tw HPT6.out.ti.tw
        have HMK : Hid (Calls Tryz.prog 20 #[.pointer (some ⟨T.tb, 0, none⟩), .string path] w6 fun e w' => TAns E w.heap.size w6 T2 0 (fun T' => PGrown T2 T' path true []) e w') := by
          have h := mkdir_any path w6 (HE.out.below HPT6.out.below) HPT6.out.rep (HPT6.out.tm.num (by decide)) HPZ.out
          rw [HTB2.out, HW.out.bare.cMkdir HPT6.out.ti.tw HG.out (by have := HW.out.count; have := HCT.out; omega)] at h
          exact h
        clear hp h6 hP2 htb2 HPT5 HRM HCT1
        go_wp2_with fail
        refine HMK.out.mono ?_
        intro e w7 hp
        rcases HPT6.out.ans hp (fun T' h => ⟨h.ti HPT6.out.ti (by simp), h.tm HPT6.out.tm⟩) with ⟨h0, _⟩ | ⟨_, rfl, T3, htb3, hP3, h7⟩
        · exact absurd rfl h0
        have HG3 := Lib.hid hP3
        have HPT7 := Lib.hid h7
        have HTB3 : Hid (T3.tb = T.tb) := htb3.trans HTB2.out
        have HI2 : Hid (TI T2) := HPT6.out.ti
        have hct0 := HPT6.out.tm.cnt0
        have HCT3 : Hid (1 ≤ T3.count) := by have := HG3.out.count.1; show _ ≤ _; omega
        have HRM3 : Hid (Calls Tryz.prog 19 #[.pointer (some ⟨T.tb, 0, none⟩), .string path] w7 fun e w' => TAns E w.heap.size w7 T3 0 (fun T' => PPruned T3 T' path) e w') := by
          have h := remove_any path w7 (HE.out.below HPT7.out.below) HPT7.out.rep HPT7.out.ti (HPT7.out.tm.num (by decide)) HPZ.out
          rw [HTB3.out, HG3.out.cRemove HI2.out] at h
          exact h
        clear hp h7 hP3 htb3 hct0 HPT6 HMK HCT
        go_wp2_with fail
        refine HRM3.out.mono ?_
        intro e w8 hp
        rcases HPT7.out.ans hp (fun T' h => ⟨h.ti HPT7.out.ti, h.tm HPT7.out.ti HPT7.out.tm HCT3.out (HG3.out.links HI2.out)⟩) with ⟨h0, _⟩ | ⟨_, rfl, T4, htb4, hP4, h8⟩
        · exact absurd rfl h0
        have HW4 : Hid (Went T2 T3 T4) := went HI2.out HPT7.out.ti HG3.out hP4
        have HPT8 := Lib.hid h8
        have HTB4 : Hid (T4.tb = T.tb) := htb4.trans HTB3.out
        have HBR : Hid (Bare T T4) := HW.out.bare.trans HW4.out.bare
        have HX4 : Hid (TxT T4) := (HBR.out.txb HXB.out HI0.out.tw HPT8.out.ti.tw).txt HPT8.out.ti HPT8.out.tm (by decide)
        have HSM : Hid (bareL T4.txt = bareL T.txt) := HBR.out.text HI0.out.tw HPT8.out.ti.tw HXB.out.deep (HBR.out.deep HXB.out HPT8.out.ti.tw)
        have hck : T4.clock = T.clock + 4 := by have := HW.out.clock; have := HW4.out.clock; omega
        have HNOW : Hid (Calls Tryz.prog 15 #[.pointer (some ⟨T.tb, 0, none⟩)] w8 fun e w' => e = .returned (.int .i64 (T.clock + 4)) ∧ w' = w8) := by
          have := HPT8.out.now
          rw [hck, HTB4.out] at this
          exact this
        have HTT : Hid (Calls Tryz.prog 14 #[.pointer (some ⟨T.tb, 0, none⟩)] w8 fun e w' => TTextPost T4.txt w8 e w') := by
          have := HX4.out.text HPT8.out.rep
          rw [HTB4.out] at this
          exact this
        clear hp h8 hP4 htb4 hck HPT7 HRM3 HCT3
        go_wp2_with fail
        refine HNOW.out.mono ?_
        rintro e w9 ⟨rfl, rfl⟩
        go_wp2_with fail
        refine HTT.out.mono ?_
        rintro e w10 ⟨rfl, hb10⟩
        have HPT10 := Lib.hid (HPT8.out.next hb10)
        clear hb10 HPT8
        go_wp2_with fail
        refine (bare_same HX4.out HSM.out w10).mono ?_
        rintro e w11 ⟨rfl, hb11⟩
        have HPT11 := Lib.hid (HPT10.out.next hb11)
        clear hb11 HPT10
        go_wp2_with fail
        refine (bare_txt HTX.out w11).mono ?_
        rintro e w12 ⟨rfl, hb12⟩
        have HPT12 := Lib.hid (HPT11.out.next hb12)
        clear hb12 HPT11
        go_wp2_with fail
        refine (awake16_any w12 (HE.out.below HPT12.out.below)).mono ?_
        rintro e w13 ⟨rfl, hb13⟩
        have HB13 := Lib.hid (below_trans HPT12.out.below hb13)
        clear hb13
        go_wp2_with fail
        go_ret
        exact ⟨rfl, HB13.out⟩
  · have HP4 := Lib.hid (fun o => (HPT2.out.next hb4).next (below_alloc w4 o))
    clear hb4 HPT2 hp
    unfold statV
    go_wp2_with fail
    refine (awake16_any _ (HE.out.below (HP4.out _).below)).mono ?_
    rintro e w7 ⟨rfl, hb7⟩
    have HB7 := Lib.hid (below_trans (HP4.out _).below hb7)
    clear hb7
    go_wp2_with fail
    go_ret
    exact ⟨rfl, HB7.out⟩
end Go.Proofs.YtjhojohjegkinaaGreatDoor
