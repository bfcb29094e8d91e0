/-
  KernPipes's walk.
-/
import Derived.Test.YtiejfbkbjahcgaaDoorKPipes
import Derived.Deep.CutRange
namespace Go.Proofs.YtiejfbkbjahcgaaDoor
open Go Go.RowKit

theorem ints_cell {w : World} {a : Option Addr} {c : Nat} {ll : List Int} (h : ISrc w (.slice a ll.length c) ll) {k : Nat} (hk : k < ll.length) : ∃ ad, a = some ad ∧ ∀ W, Below w.heap.size w W → W.cell? (ad.add k) = some (.int .i64 ll[k]) := by
  rcases h with ⟨_, h0⟩ | ⟨ad, c', h1, h2⟩
  · rw [h0] at hk; exact absurd hk (by simp)
  · have q1 := h2 k hk
    simp only [Value.slice.injEq] at h1
    exact ⟨ad, h1.1, fun W hb => (hb.cell (World.block_lt_of_cell? _ _ q1)).trans q1⟩
theorem rows_cell {w : World} {a : Option Addr} {c : Nat} {ll : List (List UInt8)} (h : BBSrc w (.slice a ll.length c) ll) {k : Nat} (hk : k < ll.length) : ∃ ad ra rc, a = some ad ∧ (∀ W, Below w.heap.size w W → W.cell? (ad.add k) = some (.slice ra ll[k].length rc)) ∧ Src w (.slice ra ll[k].length rc) ll[k] := by
  obtain ⟨ad, ra, rc, h1, h2, h3⟩ := rows_at h (Below.refl w.heap.size w) hk
  exact ⟨ad, ra, rc, h1, fun W hb => (hb.cell (World.block_lt_of_cell? _ _ h2)).trans h2, h3⟩

set_option maxRecDepth 100000 in
set_option maxHeartbeats 4000000 in
theorem kernPipes_any {E : Nat → Addr} {B0 : Nat} (w : World) (hE : Ctx E B0 w)
    (la : Option Addr) (lc : Nat) (ll : List (List UInt8)) (hl : BBSrc w (.slice la ll.length lc) ll) (_hll : ll.length ≤ 9223372036854775807)
    (na : Option Addr) (nc : Nat) (nl : List Int) (hn : ISrc w (.slice na nl.length nc) nl) (_hnl : nl.length ≤ 9223372036854775807) (hz : ∀ n ∈ nl, (Lit.int .i64 n).wf = true) :
    Calls Tryd.prog 10 #[.slice la ll.length lc, .slice na nl.length nc] w fun e w' => AwPost w e w' := by
  have HE := Lib.hid hE.raise2
  have HL := Lib.hid hl
  have HN := Lib.hid hn
  have HZ := Lib.hid hz
  clear hE hl hn hz
  go_enter Tryd.func10, Tryd.ntmps10
  go_wp2_with fail
  refine (kern_new_nil (B := w.heap.size) w (.slice none 0 0) [] (.inl ⟨rfl, rfl⟩) (by simp) (Nat.le_refl _)).mono ?_
  intro e w2 hp
  obtain ⟨w1, ⟨K, rfl, hK, hT, hfds, hil, hol, hel, hfl, hb2, hown⟩, hb1⟩ := hp
  have HB2 := Lib.hid (below_trans hb1 hb2)
  have HP : Hid (Calls Tryd.prog 35 #[.pointer (some ⟨K.kb, 0, none⟩)] w2 fun e w' => KPipe w.heap.size w2 K 3 4 e w') :=
    kern_pipe w2 HB2.out.size hK 3 4 (by rw [hfds]; rfl) (by rw [hfds]; rfl)
  have HM := Lib.hid (fun (e : Ending) (w' : World) => pp_made (e := e) (w' := w') hK HB2.out HB2.out.size (by rw [hT]; rfl))
  clear hK hT hfds hil hol hel hfl hb2 hb1 hown HB2
  generalize K.kb = kb at *
  go_wp2_with fail
  refine HP.out.mono ?_
  intro e w3 hp
  obtain ⟨rfl, kn, bx, bq, K3, hpp⟩ := HM.out e w3 hp
  have HP3 := Lib.hid hpp
  clear hpp hp HP HM
  have HR3 : Hid (Rows2 w.heap.size K3 (.slice none 0 0) (.slice none 0 0) [] [] w3) := ⟨⟨World.ownsRow_nil _ _ _ _, fun _ h => (by cases h)⟩, ⟨World.ownsRow_nil _ _ _ _, fun _ h => (by cases h)⟩, fun _ h => (by cases h)⟩
  go_wp2_with fail
  go_loopw [9, 10, 11] (fun av gv iv wr => ∃ (k p : Nat) (l : List UInt8), k ≤ 61 ∧ p ≤ l.length ∧ l.length ≤ 62000 ∧ iv = .int .i64 k ∧ Hid (∃ K, PP w.heap.size w kb kn bx bq p l k K wr ∧ Rows2 w.heap.size K av gv l (l.take p) wr)) (fun _ _ iv _ => 62 - (intOf iv).toNat)
  case atStart => exact ⟨0, 0, [], by decide, Nat.le_refl _, by decide, rfl, K3, HP3.out, HR3.out⟩
  case round =>
    clear HP3 HR3
    obtain ⟨k, p, l, hk, hp, hl, rfl, hpp⟩ := hrel
    obtain ⟨K, hpp, hrw⟩ := hpp.out
    have HP := Lib.hid hpp
    have HRW := Lib.hid hrw
    clear hpp hrw
    by_cases hgo : k < ll.length ∨ k < nl.length
    · go_upto_region 7 with fail
      go_cut [34] from 25 to 104 (fun s34 wx => wx = wr ∧ s34 = .bool true)
      case first =>
        by_cases h1 : k < ll.length
        · have h1i : (k : Int) < ll.length := by omega
          go_wp2_with fail
          go_meet
          case rel => exact ⟨rfl, rfl⟩
        · have h1i : ¬ (k : Int) < ll.length := by omega
          have h2i : (k : Int) < nl.length := by omega
          go_wp2_with fail
          go_meet
          case rel => exact ⟨rfl, rfl⟩
      case rest =>
        obtain ⟨rfl, rfl⟩ := hcut
        clear hgo
        obtain ⟨aa, ac, rfl⟩ := owns_form HRW.out.a.1
        have HGL : Hid ((l.take p).length = p) := by show _ = _; rw [List.length_take]; omega
        obtain ⟨ga, gc, hge⟩ := owns_form HRW.out.g.1
        rw [HGL.out] at hge
        subst hge
        go_upto_region 9 with fail
        go_cut [53] from 25 to 104 (fun s53 wx => wx = wc ∧ ((s53 = .bool true ∧ Hid (∃ h : k < ll.length, ll[k].length ≤ 2000 ∧ l.length < 60000)) ∨ s53 = .bool false))
        case first =>
          by_cases h1 : k < ll.length
          · have h1i : (k : Int) < ll.length := by omega
            obtain ⟨ad, ra, rc, rfl, hc, _⟩ := rows_cell HL.out h1
            have hcell := hc _ HP.out.below
            obtain ⟨b, hb⟩ : ∃ b, b = ll[k] := ⟨_, rfl⟩
            rw [← hb] at hcell
            have HBB := Lib.hid hb
            clear hc hb
            by_cases h2 : b.length ≤ 2000
            · have h2i : (b.length : Int) ≤ 2000 := by omega
              by_cases h3 : l.length < 60000
              · have h3i : (l.length : Int) < 60000 := by omega
                go_wp2_with fail
                go_meet
                case rel => exact ⟨rfl, .inl ⟨rfl, h1, HBB.out ▸ h2, h3⟩⟩
              · have h3i : ¬ (l.length : Int) < 60000 := by omega
                go_wp2_with fail
                go_meet
                case rel => exact ⟨rfl, .inr rfl⟩
            · have h2i : ¬ (b.length : Int) ≤ 2000 := by omega
              go_wp2_with fail
              go_meet
              case rel => exact ⟨rfl, .inr rfl⟩
          · have h1i : ¬ (k : Int) < ll.length := by omega
            go_wp2_with fail
            go_meet
            case rel => exact ⟨rfl, .inr rfl⟩
        case rest =>
          obtain ⟨hwx, hW⟩ := hcut
          subst hwx
          have HW := Lib.hid hW
          clear hW
          go_upto_if 53 with fail
          go_cut [9] from 25 to 104 (fun s9 wx => ∃ l' : List UInt8, p ≤ l'.length ∧ l'.length ≤ 62000 ∧ Hid (∃ K', PP w.heap.size w kb kn bx bq p l' (k + 1) K' wx ∧ Rows2 w.heap.size K' s9 (.slice ga p gc) l' (l'.take p) wx))
          case first =>
            rcases HW.out with ⟨rfl, hw⟩ | rfl
            · obtain ⟨hlt, h2000, h60⟩ := hw.out
              obtain ⟨ad, ra, rc, rfl, hc, hsrc⟩ := rows_cell HL.out hlt
              obtain ⟨b, hb⟩ : ∃ b, b = ll[k] := ⟨_, rfl⟩
              rw [← hb] at hc hsrc h2000
              have HC := Lib.hid hc
              have HB := Lib.hid hsrc
              have hcell := hc _ HP.out.below
              have hki : (k : Int) < ll.length := by omega
              clear hb hc hsrc hw HW
              have HWR := Lib.hid (HP.out.write (by omega) (.slice ra b.length rc) b (src_up HB.out HP.out.below) (src_low2 HB.out) (by omega))
              go_wp2_with fail
              refine HWR.out.mono ?_
              rintro e w4 ⟨rfl, K4, hpp4, hk4, hf4⟩
              have HP4 := Lib.hid hpp4
              have HW4 := Lib.hid (HRW.out.wrote hk4 hf4)
              have HB4 := Lib.hid (src_up HB.out hpp4.below)
              have hcell4 := HC.out _ hpp4.below
              have hbl : l.length + b.length ≤ 140737488355328 := by omega
              clear hpp4 hk4 hf4 HWR
              go_wp2_with (at_builtin; refine wpList_append_src_at rfl _ _ rfl w.heap.size (.slice aa l.length ac) l.length (u8s l) rfl HW4.out.a.1 (.slice ra b.length rc) b rfl HB4.out hbl HP4.out.base ?_)
              intro v5 w5 hown5 hg5 hat5
              have HAP := Lib.hid (HW4.out.appA HP4.out hown5 hg5 hat5)
              clear hown5 hg5 hat5 HW4 HP4 HB4
              go_wp2_with fail
              go_meet
              case rel => exact ⟨l ++ b, by rw [List.length_append]; omega, by rw [List.length_append]; omega, K4, HAP.out.2, by rw [take_more hp]; exact HAP.out.1⟩
            · go_wp2_with fail
              go_meet
              case rel => exact ⟨l, hp, hl, K, HP.out.later (c' := (k : Int) + 1) (by omega), HRW.out⟩
          case rest =>
            obtain ⟨l2, hp2, hl2, hpp2⟩ := hcut
            obtain ⟨K2, hpp2, hrw2⟩ := hpp2.out
            have HP2 := Lib.hid hpp2
            have HRW2 := Lib.hid hrw2
            clear hpp2 hrw2 HP HRW HW hp hl HGL
            obtain ⟨a2, c2, rfl⟩ := owns_form HRW2.out.a.1
            have HGL2 : Hid ((l2.take p).length = p) := by show _ = _; rw [List.length_take]; omega
            go_upto_region 13 with fail
            go_cut [78] from 25 to 104 (fun s78 wx => wx = wc ∧ ((s78 = .bool true ∧ Hid (∃ h : k < nl.length, 0 ≤ nl[k])) ∨ s78 = .bool false))
            case first =>
              by_cases h1 : k < nl.length
              · have h1i : (k : Int) < nl.length := by omega
                obtain ⟨ad, rfl, hc⟩ := ints_cell HN.out h1
                have hcell := hc _ HP2.out.below
                obtain ⟨n, hn⟩ : ∃ n, n = nl[k] := ⟨_, rfl⟩
                rw [← hn] at hcell
                have HNN := Lib.hid hn
                clear hc hn
                by_cases h2 : 0 ≤ n
                · go_wp2_with fail
                  go_meet
                  case rel => exact ⟨rfl, .inl ⟨rfl, h1, HNN.out ▸ h2⟩⟩
                · go_wp2_with fail
                  go_meet
                  case rel => exact ⟨rfl, .inr rfl⟩
              · have h1i : ¬ (k : Int) < nl.length := by omega
                go_wp2_with fail
                go_meet
                case rel => exact ⟨rfl, .inr rfl⟩
            case rest =>
              obtain ⟨hwx, hW⟩ := hcut
              subst hwx
              have HW := Lib.hid hW
              clear hW
              go_upto_if 78 with fail
              go_cut [10] from 25 to 104 (fun s10 wx => ∃ p' : Nat, p' ≤ l2.length ∧ Hid (∃ K', PP w.heap.size w kb kn bx bq p' l2 (k + 1) K' wx ∧ Rows2 w.heap.size K' (.slice a2 l2.length c2) s10 l2 (l2.take p') wx))
              case first =>
                rcases HW.out with ⟨rfl, hw⟩ | rfl
                · obtain ⟨hlt, h0⟩ := hw.out
                  obtain ⟨ad, rfl, hc⟩ := ints_cell HN.out hlt
                  have hzn := wf_bounds (HZ.out nl[k] (List.getElem_mem hlt))
                  obtain ⟨m, hm⟩ := Int.eq_ofNat_of_zero_le h0
                  rw [hm] at hc hzn
                  have HC := Lib.hid hc
                  have hcell := hc _ HP2.out.below
                  have hki : (k : Int) < nl.length := by omega
                  have hmi : (m : Int) ≤ 9223372036854775807 := hzn.2
                  clear hc hzn hm hw HW h0
                  have HRD := Lib.hid (HP2.out.read m (by omega) (by omega) (by omega))
                  have HT := Lib.hid (take_read hp2 m)
                  obtain ⟨o, ho⟩ : ∃ o, o = readL l2 p m := ⟨_, rfl⟩
                  rw [← ho] at HRD HT
                  clear ho
                  have hoi : (o.length : Int) ≤ m := by have := HT.out.2.2; omega
                  go_wp2_with fail
                  refine HRD.out.mono ?_
                  rintro e w4 ⟨v4, rfl, hown4, K4, hpp4, hk4, hf4⟩
                  obtain ⟨va4, vc4, rfl⟩ := owns_form hown4
                  have HP4 := Lib.hid hpp4
                  have HW4 := Lib.hid (HRW2.out.wrote hk4 (fun x hx => .inl (hf4 x hx)))
                  have HS4 := Lib.hid (Src.of_owns hown4)
                  have HG4 : Hid (w4.ownsRow w.heap.size 5 1 (.slice ga p gc) p (u8s (l2.take p))) := by
                    have h := HW4.out.g.1
                    rw [HGL2.out] at h
                    exact h
                  have hrl : p + o.length ≤ 140737488355328 := by have := HT.out.2.1; omega
                  have hcell4 := HC.out _ hpp4.below
                  clear hown4 hpp4 hk4 hf4 HRD
                  go_wp2_with (at_builtin; refine wpList_append_src_at rfl _ _ rfl w.heap.size (.slice ga p gc) p (u8s (l2.take p)) rfl HG4.out (.slice va4 o.length vc4) o rfl HS4.out hrl HP4.out.base ?_)
                  intro v5 w5 hown5 hg5 hat5
                  have HAP := Lib.hid (HW4.out.appG (b := o) HP4.out (by rw [HGL2.out]; exact hown5) hg5 hat5)
                  clear hown5 hg5 hat5 HW4 HP4 HS4 HG4 hrl
                  go_wp2_with fail
                  go_meet
                  case rel => exact ⟨p + o.length, HT.out.2.1, K4, HAP.out.2, by rw [← HT.out.1]; exact HAP.out.1⟩
                · go_wp2_with fail
                  go_meet
                  case rel => exact ⟨p, hp2, K2, HP2.out, HRW2.out⟩
              case rest =>
                obtain ⟨p3, hp3, hpp3⟩ := hcut
                obtain ⟨K3', hpp3, hrw3⟩ := hpp3.out
                have HP3' := Lib.hid hpp3
                have HRW3 := Lib.hid hrw3
                clear hpp3 hrw3 HP2 HRW2 HW hp2 HGL2
                by_cases hk60 : k = 61
                · have hk60i : (60 : Int) < k := by omega
                  clear hk60
                  have HGL : Hid ((l2.take p3).length = p3) := by show _ = _; rw [List.length_take]; omega
                  have HRL : Hid (p3 + (readL l2 p3 1048576).length ≤ 65536) := by show _ ≤ _; have := (take_read hp3 1048576).2.1; omega
                  have HR1 := Lib.hid (HP3'.out.read 1048576 (by omega) (by decide) (by omega))
                  obtain ⟨ga, gc, hge⟩ := owns_form HRW3.out.g.1
                  rw [HGL.out] at hge
                  subst hge
                  go_wp2_with fail
                  refine HR1.out.mono ?_
                  rintro e w4 ⟨v4, rfl, hown4, K4, hpp4, hk4, hf4⟩
                  obtain ⟨va4, vc4, rfl⟩ := owns_form hown4
                  have HP4 := Lib.hid hpp4
                  have HW4 := Lib.hid (HRW3.out.wrote hk4 (fun x hx => .inl (hf4 x hx)))
                  have HS4 := Lib.hid (Src.of_owns hown4)
                  have HG4 : Hid (w4.ownsRow w.heap.size 5 1 (.slice ga p3 gc) p3 (u8s (l2.take p3))) := by
                    have h := HW4.out.g.1
                    rw [HGL.out] at h
                    exact h
                  have hrl : p3 + (readL l2 p3 1048576).length ≤ 140737488355328 := by have := HRL.out; omega
                  clear hown4 hpp4 hk4 hf4 HR1 HRW3 HP3'
                  go_wp2_with (at_builtin; refine wpList_wanted (by rfl) ?_; refine wpList_append_src_at rfl _ _ rfl w.heap.size (.slice ga p3 gc) p3 (u8s (l2.take p3)) rfl HG4.out (.slice va4 (readL l2 p3 1048576).length vc4) (readL l2 p3 1048576) rfl HS4.out hrl HP4.out.base ?_)
                  intro v5 w5 hown5 hg5 hat5
                  have HAP := Lib.hid (HW4.out.appG (b := readL l2 p3 1048576) HP4.out (by rw [HGL.out]; exact hown5) hg5 hat5)
                  have HALL := Lib.hid (take_rest (p := p3) (n := 1048576) (l := l2) (by omega))
                  have HSG := Lib.hid (Src.of_owns HAP.out.1.g.1)
                  have HSA := Lib.hid (Src.of_owns HAP.out.1.a.1)
                  have HB5 := Lib.hid HAP.out.2.below
                  have hv5 : ∃ a c, v5 = .slice a l2.length c := by
                    have h := owns_form HAP.out.1.g.1
                    rw [HALL.out] at h
                    exact h
                  obtain ⟨va5, vc5, rfl⟩ := hv5
                  rw [HALL.out] at HSG
                  have HQ := Lib.hid (bytes_true va5 vc5 a2 c2 w5 HSG.out HSA.out)
                  have HAW := Lib.hid (awake_any w5 (HE.out.below HB5.out))
                  clear hown5 hg5 hat5 HAP HALL HSG HSA HW4 HP4 HS4 HG4 hrl
                  go_wp2_with fail
                  refine HQ.out.mono ?_
                  rintro e w6 ⟨rfl, rfl⟩
                  go_wp2_with fail
                  refine HAW.out.mono ?_
                  rintro e w7 ⟨rfl, hb7⟩
                  have HB7 := Lib.hid (below_trans HB5.out hb7)
                  clear hb7
                  go_wp2_with fail
                  go_ret
                  exact ⟨rfl, HB7.out⟩
                · have hk60i : ¬ (60 : Int) < k := by omega
                  go_wp2_with fail
                  go_roundw
                  case rel => exact ⟨k + 1, p3, l2, by omega, hp3, hl2, by go_num, K3', HP3'.out, HRW3.out⟩
                  case measure => simp [intOf]; omega
    · have h1i : ¬ (k : Int) < ll.length := by omega
      have h2i : ¬ (k : Int) < nl.length := by omega
      have HGL : Hid ((l.take p).length = p) := by show _ = _; rw [List.length_take]; omega
      have HRL : Hid (p + (readL l p 1048576).length ≤ 65536) := by show _ ≤ _; have := (take_read hp 1048576).2.1; omega
      have HR1 : Hid (Calls Tryd.prog 31 #[.pointer (some ⟨kb, 0, none⟩), .int .i64 4, .int .i64 1048576] wr fun e w' => PPR w.heap.size w kb kn bx bq p l k K (readL l p 1048576) wr e w') := HP.out.read 1048576 (by omega) (by decide) (by omega)
      obtain ⟨aa, ac, rfl⟩ := owns_form HRW.out.a.1
      obtain ⟨ga, gc, hge⟩ := owns_form HRW.out.g.1
      rw [HGL.out] at hge
      subst hge
      go_wp2_with fail
      refine HR1.out.mono ?_
      rintro e w4 ⟨v4, rfl, hown4, K4, hpp4, hk4, hf4⟩
      obtain ⟨va4, vc4, rfl⟩ := owns_form hown4
      have HP4 := Lib.hid hpp4
      have HW4 := Lib.hid (HRW.out.wrote hk4 (fun x hx => .inl (hf4 x hx)))
      have HS4 := Lib.hid (Src.of_owns hown4)
      have HG4 : Hid (w4.ownsRow w.heap.size 5 1 (.slice ga p gc) p (u8s (l.take p))) := by
        have h := HW4.out.g.1
        rw [HGL.out] at h
        exact h
      have hrl : p + (readL l p 1048576).length ≤ 140737488355328 := by have := HRL.out; omega
      clear hown4 hpp4 hk4 hf4 HR1 HRW HP
      go_wp2_with (at_builtin; refine wpList_wanted (by rfl) ?_; refine wpList_append_src_at rfl _ _ rfl w.heap.size (.slice ga p gc) p (u8s (l.take p)) rfl HG4.out (.slice va4 (readL l p 1048576).length vc4) (readL l p 1048576) rfl HS4.out hrl HP4.out.base ?_)
      intro v5 w5 hown5 hg5 hat5
      have HAP := Lib.hid (HW4.out.appG (b := readL l p 1048576) HP4.out (by rw [HGL.out]; exact hown5) hg5 hat5)
      have HALL := Lib.hid (take_rest (p := p) (n := 1048576) (l := l) (by omega))
      have HSG := Lib.hid (Src.of_owns HAP.out.1.g.1)
      have HSA := Lib.hid (Src.of_owns HAP.out.1.a.1)
      have HB5 := Lib.hid HAP.out.2.below
      have hv5 : ∃ a c, v5 = .slice a l.length c := by
        have h := owns_form HAP.out.1.g.1
        rw [HALL.out] at h
        exact h
      obtain ⟨va5, vc5, rfl⟩ := hv5
      rw [HALL.out] at HSG
      have HQ := Lib.hid (bytes_true va5 vc5 aa ac w5 HSG.out HSA.out)
      have HAW := Lib.hid (awake_any w5 (HE.out.below HB5.out))
      clear hown5 hg5 hat5 HAP HALL HSG HSA HW4 HP4 HS4 HG4 hrl
      go_wp2_with fail
      refine HQ.out.mono ?_
      rintro e w6 ⟨rfl, rfl⟩
      go_wp2_with fail
      refine HAW.out.mono ?_
      rintro e w7 ⟨rfl, hb7⟩
      have HB7 := Lib.hid (below_trans HB5.out hb7)
      clear hb7
      go_wp2_with fail
      go_ret
      exact ⟨rfl, HB7.out⟩
end Go.Proofs.YtiejfbkbjahcgaaDoor
