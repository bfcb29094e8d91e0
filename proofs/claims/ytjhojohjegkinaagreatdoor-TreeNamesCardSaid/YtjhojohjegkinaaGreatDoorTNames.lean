/-
  TreeNames' walk.
-/
import Derived.Test.YtjhojohjegkinaaGreatDoorNamesL
import Derived.Test.YtjhojohjegkinaaGreatDoorBothA
import Derived.Test.YtjhojohjegkinaaGreatDoorAwake16
namespace Go.Proofs.YtjhojohjegkinaaGreatDoor
open Go Go.RowKit

/-- A row of strings, cell by cell. -/
def StrsIn (w : World) (a : Option Addr) (ss : List (List UInt8)) : Prop := ∀ j (h : j < ss.length), ∃ g, a = some ⟨g, 0, none⟩ ∧ w.cell? ⟨g, j, none⟩ = some (.string (mkB ss[j]))
theorem StrsIn.up {w w' : World} {a : Option Addr} {ss : List (List UInt8)} (h : StrsIn w a ss) (hb : Below w.heap.size w w') : StrsIn w' a ss := fun j hj => by
  obtain ⟨g, h1, h2⟩ := h j hj
  exact ⟨g, h1, below_cell hb h2⟩
theorem strsIn_of_row {w : World} {base c : Nat} {a : Option Addr} {ss : List (List UInt8)} (h : w.ownsRow base 9 1 (.slice a ss.length c) ss.length (ss.map encStr)) : StrsIn w a ss := by
  intro j hj
  rcases h.2 with ⟨_, h0⟩ | ⟨g, cap, cur, h1, h2, h3, _, _, _, h6⟩
  · omega
  · simp only [Value.slice.injEq] at h1
    refine ⟨g, h1.1, cell_of h3 ?_⟩
    have := congrArg (fun x => x[j]?) h6
    simp only [List.getElem?_take, Nat.mul_one, hj, if_true, Array.getElem?_toList, List.getElem?_map, List.getElem?_eq_getElem hj, Option.map_some] at this
    exact this
theorem row_form {w : World} {base : Nat} {v : Value} {ss : List (List UInt8)} (h : w.ownsRow base 9 1 v ss.length (ss.map encStr)) : ∃ a c, v = .slice a ss.length c ∧ StrsIn w a ss := by
  obtain ⟨a, c, rfl⟩ := owns_form h
  exact ⟨a, c, rfl, strsIn_of_row h⟩
theorem toList_mkB (l : List UInt8) : (mkB l).toList = l := by rw [ByteArray.toList_eq]; exact bl_mkB l
theorem less_of {ss : List (List UInt8)} (h : ss.Pairwise (· < ·)) {k : Nat} (hk : k + 1 < ss.length) : Op.bytesLess (mkB ss[k]).toList (mkB ss[k + 1]).toList = true := by
  rw [toList_mkB, toList_mkB, bytesLess_eq]
  exact decide_eq_true (List.pairwise_iff_getElem.1 h k (k + 1) (by omega) hk (by omega))
theorem names_ne {names : List (ByteArray × Nat)} (hp : ∀ s k, (s, k) ∈ names → Part (bl s)) {x : List UInt8} (hx : x ∈ sortedNames names) : (mkB x).toList.isEmpty = false ∧ ∀ n : Nat, (∀ s k, (s, k) ∈ names → s.size ≤ n) → (mkB x).size ≤ n := by
  obtain ⟨p, h1, rfl⟩ := mem_sortedNames.1 hx
  refine ⟨?_, fun n hn => ?_⟩
  · rw [toList_mkB]
    have := (hp p.1 p.2 h1).1
    cases h : bl p.1 with
    | nil => exact absurd h this
    | cons a l => rfl
  · have := hn p.1 p.2 h1
    rw [show mkB (bl p.1) = p.1 from mkB_data p.1]
    exact this

theorem gp_of {name : ByteArray} (h1 : name.toList.isEmpty = false) (h2 : (name.toList == [46]) = false) (h3 : (name.toList == [46, 46]) = false) : GP name := by
  have e : name.toList = bl name := ByteArray.toList_eq name
  rw [e] at h1 h2 h3
  refine ⟨fun h => ?_, fun h => ?_, fun h => ?_⟩
  · rw [h] at h1; cases h1
  · rw [h] at h2; cases h2
  · rw [h] at h3; cases h3
/-- What the loop over the names knows. -/
structure NM (ss : List (List UInt8)) : Prop where
  less : ∀ k (h : k + 1 < ss.length), Op.bytesLess (mkB ss[k]).toList (mkB ss[k + 1]).toList = true
  ne : ∀ k (h : k < ss.length), (mkB ss[k]).toList.isEmpty = false
  size : ∀ k (h : k < ss.length), (mkB ss[k]).size ≤ 64
theorem nm_of {T : Tr} (hI : TI T) {k : Nat} {d : Nd} (hd : T.nd k = some d) : NM (sortedNames d.names) := by
  refine ⟨fun j h => less_of (sortedNames_srt (hI.tw.keys k d hd)) h, fun j h => ?_, fun j h => ?_⟩
  · exact (names_ne (fun s q hm => (hI.tw.part k d s q hd hm).1) (List.getElem_mem h)).1
  · exact (names_ne (fun s q hm => (hI.tw.part k d s q hd hm).1) (List.getElem_mem h)).2 64 (fun s q hm => (hI.tw.part k d s q hd hm).2)
/-- What Stat tells of each name. -/
def KidStat (T : Tr) (dir : ByteArray) (ss : List (List UInt8)) : Prop := ∀ k (h : k < ss.length), dir.size + (mkB ss[k]).size < 256 → T.cStat (sub dir (mkB ss[k])) = 0 ∧ ∃ kd size links tick, T.vStat (sub dir (mkB ss[k])) = statV kd size links tick ∧ kd ≠ 0
theorem kidStat_of {T : Tr} {dir : ByteArray} {k : Nat} {d : Nd} (h : DirAt T dir k d) (hI : TI T) (hG : TG T) : KidStat T dir (sortedNames d.names) := by
  intro j hj hz
  have hs : (mkB (sortedNames d.names)[j]).size = ((sortedNames d.names)[j]).length := by
    have := Lib.size_eq (mkB (sortedNames d.names)[j])
    rw [this]
    exact congrArg List.length (bl_mkB _)
  exact h.kid hI hG (List.getElem_mem hj) (by omega)

set_option maxRecDepth 100000 in
set_option maxHeartbeats 4000000 in
theorem treeNames_any {E : Nat → Addr} {B0 : Nat} (w : World) (hE : Ctx E B0 w) (va : Option Addr) (vc : Nat) (l : List OpA) (hl : OSrc w (.slice va l.length vc) l) (hll : l.length ≤ 9223372036854775807) (hok : ∀ x ∈ l, OpOk x)
    (dir : ByteArray) (hdz : dir.size ≤ 140737488351232) (name : ByteArray) (hnz : name.size ≤ 140737488351232) :
    Calls Tryz.prog 4 #[.slice va l.length vc, .string dir, .string name] w fun e w' => AwPost w e w' := by
  have HE := Lib.hid hE.raise
  have HM := Lib.hid (made_any w hE _ l hl hok hll)
  have HDZ : Hid (dir.size ≤ 9223372036854775807) := Lib.hid (by omega)
  clear hE hl hok hll
  go_enter Tryz.func4, Tryz.ntmps4
  go_wp2_with fail
  refine HM.out.mono ?_
  rintro e w1 ⟨T, R, f, rfl, hb, hbl⟩
  have HPT : Hid (PT w.heap.size w w1 T 100000) := PT.of_both hb (by omega) hbl
  have HTG : Hid (TG T) := hb.tg
  clear hb hbl HM
  go_wp2_with fail
  refine (list_any dir w1 (HE.out.below HPT.out.below) HPT.out.rep HPT.out.ti HPT.out.tm (by decide) HDZ.out).mono ?_
  intro e w2 hp
  rcases hp with ⟨hcl, a, rfl, _, hb2⟩ | ⟨hcl, v, rfl, hrow, hb2⟩
  · have HPT2 := Lib.hid (HPT.out.next hb2)
    have HCL := Lib.hid hcl
    clear hb2 HPT hcl
    go_wp2_with fail
    refine (stat_any dir w2 (HE.out.below HPT2.out.below) HPT2.out.rep HPT2.out.ti HDZ.out).mono ?_
    intro e w3 hp
    rcases hp with ⟨hcs, a3, rfl, _, hb3⟩ | ⟨hcs, rfl, hb3⟩
    · have HPT3 := Lib.hid (HPT2.out.next hb3)
      clear hb3 HPT2 hcs
      have HP4 := Lib.hid (fun o => HPT3.out.next (below_alloc w3 o))
      unfold statV
      go_wp2_with fail
      refine (awake16_any _ (HE.out.below (HP4.out _).below)).mono ?_
      rintro e w5 ⟨rfl, hb5⟩
      have HB5 := Lib.hid (below_trans (HP4.out _).below hb5)
      clear hb5
      go_wp2_with fail
      go_ret
      exact ⟨rfl, HB5.out⟩
    · obtain ⟨sz, ln, tk, hv⟩ := cList_file HPT2.out.ti HCL.out hcs
      rw [hv]
      have HPT3 := Lib.hid (HPT2.out.next hb3)
      clear hb3 HPT2 hcs hv
      have HP4 := Lib.hid (fun o => HPT3.out.next (below_alloc w3 o))
      unfold statV
      go_wp2_with fail
      refine (awake16_any _ (HE.out.below (HP4.out _).below)).mono ?_
      rintro e w5 ⟨rfl, hb5⟩
      have HB5 := Lib.hid (below_trans (HP4.out _).below hb5)
      clear hb5
      go_wp2_with fail
      go_ret
      exact ⟨rfl, HB5.out⟩
  · obtain ⟨k0, d, hdir⟩ := cList_dir hcl
    have HDIR := Lib.hid hdir
    rw [hdir.list.2] at hrow
    obtain ⟨sa, sc, rfl, hst⟩ := row_form hrow
    have HPT2 := Lib.hid (HPT.out.next hb2)
    have HST2 := Lib.hid hst
    have HNM : Hid (NM (sortedNames d.names)) := nm_of HPT.out.ti hdir.nd
    have HKS : Hid (KidStat T dir (sortedNames d.names)) := kidStat_of hdir HPT.out.ti HTG.out
    have hdl : d.names.length = (sortedNames d.names).length := (sortedNames_len _).symm
    have hnl : ((sortedNames d.names).length : Int) ≤ 100000 := by
      have h1 := (HPT.out.ti.num k0 d hdir.nd).2.2
      have h2 := HPT.out.tm.clk1
      rw [← hdl]
      omega
    have HSA : Hid (Calls Tryz.prog 16 #[.pointer (some ⟨T.tb, 0, none⟩), .string dir] w2 fun e w' => StatPost w2 (statV 2 (sortedNames d.names).length 1 d.tick) e w') := by
      have h := stat_any dir w2 (HE.out.below HPT2.out.below) HPT2.out.rep HPT2.out.ti HDZ.out
      rw [hdir.cStat.1, hdir.cStat.2, hdl] at h
      refine h.mono fun e w' hx => ?_
      rcases hx with ⟨h0, _⟩ | ⟨_, hx⟩
      · exact absurd rfl h0
      · exact hx
    have HDL := Lib.hid hdl
    clear hcl hdir hrow hst hb2 HPT hdl
    obtain ⟨ss, hss⟩ : ∃ ss, ss = sortedNames d.names := ⟨_, rfl⟩
    have HSS := Lib.hid hss
    rw [← hss] at HST2 HNM HKS HSA hnl ⊢
    clear hss
    generalize d.tick = tk at *
    go_wp2_with fail
    refine HSA.out.mono ?_
    rintro e w3 ⟨rfl, hb3⟩
    have HPT3 := Lib.hid (HPT2.out.next hb3)
    have HST3 := Lib.hid (HST2.out.up hb3)
    clear hb3 HPT2 HST2 HSA
    have HP4 := Lib.hid (fun o => HPT3.out.next (below_alloc w3 o))
    have HS4 := Lib.hid (fun o => HST3.out.up (below_alloc w3 o))
    unfold statV
    go_wp2_with fail
    go_loopw [75] (fun idx wr => ∃ k : Nat, k ≤ ss.length ∧ idx = .int .i64 k ∧ Hid (PT w.heap.size w wr T 100000) ∧ Hid (StrsIn wr sa ss)) (fun idx _ => ss.length - (intOf idx).toNat)
    case atStart => exact ⟨0, Nat.zero_le _, rfl, HP4.out _, HS4.out _⟩
    case round =>
      clear HP4 HS4 HPT3 HST3
      obtain ⟨k, hk, rfl, hpt, hst⟩ := hrel
      by_cases hlt : k < ss.length
      · have hki : (k : Int) < ss.length := by omega
        obtain ⟨g, hga, hcell⟩ := hst.out k hlt
        have hne := HNM.out.ne k hlt
        have hsz := HNM.out.size k hlt
        have hkid := HKS.out k hlt
        have hprev : Hid (0 < k → ∃ A : ByteArray, wr.cell? ⟨g, k - 1, none⟩ = some (.string A) ∧ Op.bytesLess A.toList (mkB ss[k]).toList = true) := fun h0 => by
          obtain ⟨j, rfl⟩ : ∃ j, k = j + 1 := ⟨k - 1, by omega⟩
          obtain ⟨g', hga', hc'⟩ := hst.out j (by omega)
          rw [hga] at hga'
          obtain rfl : g = g' := by simpa using hga'
          exact ⟨_, hc', HNM.out.less j hlt⟩
        have HKID := Lib.hid hkid
        clear hkid
        generalize mkB ss[k] = S at *
        subst hga
        have HFIN : Hid (∀ wx, Below wr.heap.size wr wx → PT w.heap.size w wx T 100000 ∧ StrsIn wx (some ⟨g, 0, none⟩) ss) := fun wx hx => ⟨hpt.out.next hx, hst.out.up hx⟩
        have HSTAT : Hid (dir.size + S.size < 256 → ∃ kd size links tick, kd ≠ 0 ∧ Calls Tryz.prog 16 #[.pointer (some ⟨T.tb, 0, none⟩), .string (dir ++ ⟨#[47]⟩ ++ S)] wr fun e w' => StatPost wr (statV kd size links tick) e w') := fun hz => by
          obtain ⟨h1, kd, size, links, tick, h2, h3⟩ := HKID.out hz
          refine ⟨kd, size, links, tick, h3, ?_⟩
          have h := stat_any (sub dir S) wr (HE.out.below hpt.out.below) hpt.out.rep hpt.out.ti (by rw [sub_size]; omega)
          rw [h1, h2] at h
          refine h.mono fun e w' hx => ?_
          rcases hx with ⟨h0, _⟩ | ⟨_, hx⟩
          · exact absurd rfl h0
          · exact hx
        clear hpt hst HKID
        by_cases hk0 : k = 0
        · subst hk0
          by_cases hz : dir.size + S.size < 256
          · obtain ⟨kd, size, links, tick, hkd, hcalls⟩ := HSTAT.out hz
            have HC := Lib.hid hcalls
            have hzi : (dir.size : Int) + S.size < 256 := by omega
            clear hcalls HSTAT
            go_wp2_with fail
            refine HC.out.mono ?_
            rintro e w5 ⟨rfl, hb5⟩
            have HB5 := Lib.hid (fun o => below_trans hb5 (below_alloc w5 o))
            clear hb5
            unfold statV
            go_wp2_with fail
            go_roundw
            case rel => exact ⟨0 + 1, by omega, by go_num, (HFIN.out _ (HB5.out _)).1, (HFIN.out _ (HB5.out _)).2⟩
            case measure => simp [intOf]; omega
          · have hzi : ¬ (dir.size : Int) + S.size < 256 := by omega
            clear HSTAT
            go_wp2_with fail
            go_roundw
            case rel => exact ⟨0 + 1, by omega, by go_num, (HFIN.out _ (Below.refl _ _)).1, (HFIN.out _ (Below.refl _ _)).2⟩
            case measure => simp [intOf]; omega
        · obtain ⟨A, hprev, hless⟩ := hprev.out (by omega)
          have hkp : (0 : Int) < k := by omega
          have hk1 : IntKind.i64.wrap ((k : Int) - 1) = ((k - 1 : Nat) : Int) := by
            rw [IntWalk.i64_in _ (by omega)]
            omega
          have hk2 : ((k - 1 : Nat) : Int) < ss.length := by omega
          by_cases hz : dir.size + S.size < 256
          · obtain ⟨kd, size, links, tick, hkd, hcalls⟩ := HSTAT.out hz
            have HC := Lib.hid hcalls
            have hzi : (dir.size : Int) + S.size < 256 := by omega
            clear hcalls HSTAT
            go_wp2_with fail
            refine HC.out.mono ?_
            rintro e w5 ⟨rfl, hb5⟩
            have HB5 := Lib.hid (fun o => below_trans hb5 (below_alloc w5 o))
            clear hb5
            unfold statV
            go_wp2_with fail
            go_roundw
            case rel => exact ⟨k + 1, by omega, by go_num, (HFIN.out _ (HB5.out _)).1, (HFIN.out _ (HB5.out _)).2⟩
            case measure => simp [intOf]; omega
          · have hzi : ¬ (dir.size : Int) + S.size < 256 := by omega
            clear HSTAT
            go_wp2_with fail
            go_roundw
            case rel => exact ⟨k + 1, by omega, by go_num, (HFIN.out _ (Below.refl _ _)).1, (HFIN.out _ (Below.refl _ _)).2⟩
            case measure => simp [intOf]; omega
      · obtain rfl : k = ss.length := by omega
        have HPT5 : Hid (PT w.heap.size w wr T 100000) := hpt
        clear hpt hst HNM HKS
        by_cases g1 : name.toList.isEmpty = true
        · go_wp2_with fail
          refine (awake16_any _ (HE.out.below HPT5.out.below)).mono ?_
          rintro e wx ⟨rfl, hbx⟩
          have HBX := Lib.hid (below_trans HPT5.out.below hbx)
          clear hbx
          go_wp2_with fail
          go_ret
          exact ⟨rfl, HBX.out⟩
        have g1 : name.toList.isEmpty = false := by simpa using g1
        by_cases g2 : (name.toList == [46]) = true
        · go_wp2_with fail
          refine (awake16_any _ (HE.out.below HPT5.out.below)).mono ?_
          rintro e wx ⟨rfl, hbx⟩
          have HBX := Lib.hid (below_trans HPT5.out.below hbx)
          clear hbx
          go_wp2_with fail
          go_ret
          exact ⟨rfl, HBX.out⟩
        have g2 : (name.toList == [46]) = false := by simpa using g2
        by_cases g3 : (name.toList == [46, 46]) = true
        · go_wp2_with fail
          refine (awake16_any _ (HE.out.below HPT5.out.below)).mono ?_
          rintro e wx ⟨rfl, hbx⟩
          have HBX := Lib.hid (below_trans HPT5.out.below hbx)
          clear hbx
          go_wp2_with fail
          go_ret
          exact ⟨rfl, HBX.out⟩
        have g3 : (name.toList == [46, 46]) = false := by simpa using g3
        by_cases g4 : (256 : Int) ≤ (dir.size : Int) + name.size
        · go_wp2_with fail
          refine (awake16_any _ (HE.out.below HPT5.out.below)).mono ?_
          rintro e wx ⟨rfl, hbx⟩
          have HBX := Lib.hid (below_trans HPT5.out.below hbx)
          clear hbx
          go_wp2_with fail
          go_ret
          exact ⟨rfl, HBX.out⟩
        have HZ : Hid (dir.size + name.size < 256) := by show _ < _; omega
        have HGP : Hid (GP name) := gp_of g1 g2 g3
        go_wp2_with fail
        go_loopw [139] (fun idx wr => ∃ k : Nat, k ≤ name.size ∧ idx = .int .i64 k ∧ Hid (PT w.heap.size w wr T 100000) ∧ Hid ((47 : UInt8) ∉ (bl name).take k)) (fun idx _ => name.size - (intOf idx).toNat)
        case atStart => exact ⟨0, Nat.zero_le _, rfl, HPT5.out, by show _ ∉ _; simp⟩
        case round =>
          clear HPT5
          obtain ⟨k, hk, rfl, hpt, h47⟩ := hrel
          by_cases hlt : k < name.size
          · have hki : (k : Int) < name.size := by omega
            by_cases hc : name[k] = 47
            · have hc1 : (name[k].toNat : Int) = 47 := by rw [hc]; rfl
              go_wp2_with fail
              refine (awake16_any _ (HE.out.below hpt.out.below)).mono ?_
              rintro e wx ⟨rfl, hbx⟩
              have HBX := Lib.hid (below_trans hpt.out.below hbx)
              clear hbx
              go_wp2_with fail
              go_ret
              exact ⟨rfl, HBX.out⟩
            · have hc1 : ¬ (name[k].toNat : Int) = 47 := fun e => hc (UInt8.toNat_inj.1 (by show name[k].toNat = 47; omega))
              have H47 : Hid ((47 : UInt8) ∉ (bl name).take (k + 1)) := by
                show _ ∉ _
                rw [bl_take_succ hlt]
                intro hm
                rcases List.mem_append.1 hm with hm | hm
                · exact h47.out hm
                · exact hc (List.mem_singleton.1 hm).symm
              clear h47
              go_wp2_with fail
              go_roundw
              case rel => exact ⟨k + 1, by omega, by go_num, hpt.out, H47.out⟩
              case measure => simp [intOf]; omega
          · obtain rfl : k = name.size := by omega
            have H47 : Hid ((47 : UInt8) ∉ bl name) := by
              have h := h47.out
              rw [List.take_of_length_le (by rw [bl_size]; exact Nat.le_refl _)] at h
              exact h
            have HPT6 : Hid (PT w.heap.size w wr T 100000) := hpt
            clear hpt h47
            have HSUB : Hid ((sub dir name).size ≤ 9223372036854775807) := by show _ ≤ _; rw [sub_size]; omega
            have HSS6 : Hid (Calls Tryz.prog 16 #[.pointer (some ⟨T.tb, 0, none⟩), .string (dir ++ ⟨#[47]⟩ ++ name)] wr fun e w' => SAns E wr (T.cStat (sub dir name)) (T.vStat (sub dir name)) e w') := stat_any (sub dir name) wr (HE.out.below HPT6.out.below) HPT6.out.rep HPT6.out.ti HSUB.out
            go_wp2_with fail
            refine HSS6.out.mono ?_
            intro e w6 hp
            clear HSS6
            obtain ⟨kd, sz, ln, tk6, hv⟩ := vStat_form T (sub dir name)
            rw [hv] at hp
            rcases hp with ⟨hcs, a6, rfl, _, hb6⟩ | ⟨_, rfl, hb6⟩
            rotate_left
            · have HP6 := Lib.hid (fun o => (HPT6.out.next hb6).next (below_alloc w6 o))
              clear hb6 HPT6 hv
              unfold statV
              go_wp2_with fail
              refine (awake16_any _ (HE.out.below (HP6.out _).below)).mono ?_
              rintro e wx ⟨rfl, hbx⟩
              have HBX := Lib.hid (below_trans (HP6.out _).below hbx)
              clear hbx
              go_wp2_with fail
              go_ret
              exact ⟨rfl, HBX.out⟩
            · have HCS := Lib.hid hcs
              have HP6 := Lib.hid (fun o => (HPT6.out.next hb6).next (below_alloc w6 o))
              clear hb6 HPT6 hcs hv
              unfold statV
              have HWR : Hid (∀ o, Calls Tryz.prog 18 #[.pointer (some ⟨T.tb, 0, none⟩), .string (dir ++ ⟨#[47]⟩ ++ name), .slice none 0 0, .bool false] (w6.alloc o) fun e w' => TAns E w.heap.size (w6.alloc o) T (T.cWrite (sub dir name) [] false) (fun T' => PWrote T T' (sub dir name) [] false) e w') := fun o =>
                write_any (sub dir name) (.slice none 0 0) [] false (w6.alloc o) (HE.out.below (HP6.out o).below) (HP6.out o).rep (HP6.out o).ti ((HP6.out o).tm.num (by decide)) HSUB.out (.inl ⟨rfl, rfl⟩) (fun h => by simp at h)
              go_wp2_with fail
              refine (HWR.out _).mono ?_
              intro e w7 hp
              rcases (HP6.out _).ans hp (fun T' h => ⟨h.ti (HP6.out (.cells #[] 30)).ti, h.tm (HP6.out (.cells #[] 30)).tm⟩) with ⟨hc, ⟨a, rfl⟩, h7⟩ | ⟨hc, rfl, T1, htb, hP, h7⟩
              · have HPT7 := Lib.hid h7
                clear hp hc h7 HP6 HWR
                go_wp2_with fail
                refine (awake16_any _ (HE.out.below HPT7.out.below)).mono ?_
                rintro e wx ⟨rfl, hbx⟩
                have HBX := Lib.hid (below_trans HPT7.out.below hbx)
                clear hbx
                go_wp2_with fail
                go_ret
                exact ⟨rfl, HBX.out⟩
              · have HI0 : Hid (TI T) := (HP6.out (.cells #[] 30)).ti
                obtain ⟨d1, hd1, hlen, hmem⟩ := HDIR.out.more HI0.out HGP.out H47.out (hP.new HCS.out)
                have HPT7 := Lib.hid h7
                have HLI : Hid (Calls Tryz.prog 22 #[.pointer (some ⟨T.tb, 0, none⟩), .string dir] w7 fun e w' => LAns E w7 0 (sortedNames d1.names) e w') := by
                  have h := list_any dir w7 (HE.out.below HPT7.out.below) HPT7.out.rep HPT7.out.ti HPT7.out.tm (by decide) HDZ.out
                  rw [htb, hd1.list.1, hd1.list.2] at h
                  exact h
                have HMEM := Lib.hid hmem
                have HLN : Hid ((sortedNames d1.names).length = ss.length + 1) := by
                  show _ = _
                  rw [sortedNames_len, hlen, HDL.out, HSS.out]
                clear hp hc h7 hP htb hd1 hlen hmem HP6 HWR HCS
                generalize sortedNames d1.names = s1 at *
                go_wp2_with fail
                refine HLI.out.mono ?_
                intro e w8 hp
                rcases hp with ⟨h0, _⟩ | ⟨_, v8, rfl, hrow8, hb8⟩
                · exact absurd rfl h0
                obtain ⟨sb, sd, rfl, hst8⟩ := row_form hrow8
                rw [HLN.out]
                have HPT8 := Lib.hid (HPT7.out.next hb8)
                have HST8 := Lib.hid hst8
                clear hrow8 hst8 hb8 HPT7 HLI
                go_wp2_with fail
                go_loopw [22, 177] (fun fv idx wr => ∃ (k : Nat) (b : Bool), k ≤ ss.length + 1 ∧ fv = .bool b ∧ idx = .int .i64 k ∧ Hid (PT w.heap.size w wr T1 100001) ∧ Hid (StrsIn wr sb s1) ∧ Hid (b = true ↔ bl name ∈ s1.take k)) (fun _ idx _ => ss.length + 1 - (intOf idx).toNat)
                case atStart => exact ⟨0, false, Nat.zero_le _, rfl, rfl, HPT8.out, HST8.out, by show _ ↔ _; simp⟩
                case round =>
                  clear HPT8 HST8
                  obtain ⟨k, b, hk, rfl, rfl, hpt, hst, hbm⟩ := hrel
                  by_cases hlt : k < ss.length + 1
                  · have hki : (k : Int) < (ss.length : Int) + 1 := by omega
                    have hlt' : k < s1.length := by rw [HLN.out]; exact hlt
                    obtain ⟨g, hga, hcell⟩ := hst.out k hlt'
                    have HTK : Hid (s1.take (k + 1) = s1.take k ++ [s1[k]]) := by show _ = _; rw [List.take_add_one, List.getElem?_eq_getElem hlt']; rfl
                    have HS : Hid ((mkB s1[k]).toList = s1[k]) := toList_mkB _
                    generalize hx : s1[k] = x at *
                    clear hx
                    generalize mkB x = S at *
                    subst hga
                    have HNL : Hid (name.toList = bl name) := ByteArray.toList_eq name
                    cases b with
                    | true =>
                      have HBM : Hid (bl name ∈ s1.take (k + 1)) := by show _ ∈ _; rw [HTK.out]; exact List.mem_append_left _ (hbm.out.1 rfl)
                      clear hbm hlt'
                      go_wp2_with fail
                      go_roundw
                      case rel => exact ⟨k + 1, true, by omega, rfl, by go_num, hpt.out, hst.out, ⟨fun _ => HBM.out, fun _ => rfl⟩⟩
                      case measure => simp [intOf]; omega
                    | false =>
                      by_cases e : (S.toList == name.toList) = true
                      · have HBM : Hid (bl name ∈ s1.take (k + 1)) := by
                          show _ ∈ _
                          rw [HTK.out]
                          have h1 : S.toList = name.toList := by simpa using e
                          rw [HS.out, HNL.out] at h1
                          rw [← h1]
                          simp
                        clear hbm hlt'
                        go_wp2_with fail
                        go_roundw
                        case rel => exact ⟨k + 1, true, by omega, rfl, by go_num, hpt.out, hst.out, ⟨fun _ => HBM.out, fun _ => rfl⟩⟩
                        case measure => simp [intOf]; omega
                      · have e : (S.toList == name.toList) = false := by simpa using e
                        have HBM : Hid (bl name ∉ s1.take (k + 1)) := by
                          show _ ∉ _
                          rw [HTK.out]
                          intro hm
                          rcases List.mem_append.1 hm with hm | hm
                          · have := hbm.out.2 hm; cases this
                          · have h1 : S.toList = name.toList := by rw [HS.out, HNL.out]; exact (List.mem_singleton.1 hm).symm
                            rw [h1] at e
                            simp at e
                        clear hbm hlt'
                        go_wp2_with fail
                        go_roundw
                        case rel => exact ⟨k + 1, false, by omega, rfl, by go_num, hpt.out, hst.out, ⟨fun h => (by cases h), fun h => absurd h HBM.out⟩⟩
                        case measure => simp [intOf]; omega
                  · obtain rfl : k = ss.length + 1 := by omega
                    have hbt : b = true := hbm.out.2 (by rw [← HLN.out, List.take_length]; exact HMEM.out)
                    subst hbt
                    clear hbm hst
                    go_wp2_with fail
                    refine (awake16_any _ (HE.out.below hpt.out.below)).mono ?_
                    rintro e wx ⟨rfl, hbx⟩
                    have HBX := Lib.hid (below_trans hpt.out.below hbx)
                    clear hbx
                    go_wp2_with fail
                    go_ret
                    exact ⟨rfl, HBX.out⟩
end Go.Proofs.YtjhojohjegkinaaGreatDoor
