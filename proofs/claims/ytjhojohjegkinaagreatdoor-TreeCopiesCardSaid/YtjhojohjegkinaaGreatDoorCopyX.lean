/-
  The inner function of Copy.
-/
import Derived.Test.YtjhojohjegkinaaGreatDoorCopyW
namespace Go.Proofs.YtjhojohjegkinaaGreatDoor
open Go Go.RowKit

theorem look_none_of {ns : List (ByteArray × Nat)} {s : ByteArray} (h : s ∉ ns.map (·.1)) : look ns s = none := by
  cases hl : look ns s with
  | none => rfl
  | some k => exact absurd (List.mem_map.2 ⟨_, look_mem hl, rfl⟩) h
section
variable {Bt B md mc cc : Nat} {T : Tr} {L : List (Nat × Nat)} {C : Nat → Option Nd} {P : Nat → Prop} {n c mb r : Nat} {d : Nd} {bv : Value} {w wr w1 : World} {L2 : List (Nat × Nat)} {C' : Nat → Option Nd} {done : List (ByteArray × Nat)} {left : Nat}
theorem CpLoop.step (h : CpLoop Bt B md mc cc T L C P n c mb r d bv w wr L2 C' done left) (hm : md < w.heap.size ∧ B ≤ md) (hk1 : Kept (fun b => b = r) wr w1) : CX Bt B w1 mc cc md T ∧ CM B w1 md (L ++ [(n, c)] ++ L2) C' ∧ Kept (fun b => b = md) w w1 := by
  obtain ⟨es1, ck1, since, seen, cz, i1, i2, i3, i4, i5⟩ := h.it
  have hBw : B ≤ w.heap.size := by omega
  exact ⟨h.cx.iter i4 (Nat.le_trans hBw h.new.2.2) hk1, h.cm.iter i4 hk1, h.kept.trans hk1 (fun b e => .inr (by rw [e]; exact h.new.2.2))⟩
theorem cp_cells (h : CpLoop Bt B md mc cc T L C P n c mb r d bv w wr L2 C' done left) (hm : md < w.heap.size ∧ B ≤ md) (hk1 : Kept (fun b => b = r) wr w1) : w1.cell? ⟨cc, 0, none⟩ = some (.func (.func 72) #[] #[.pointer (some ⟨mc, 0, none⟩), .pointer (some ⟨cc, 0, none⟩)]) ∧ w1.cell? ⟨c, 2, none⟩ = some (.map (some mb)) := by
  obtain ⟨h1, h2, _⟩ := h.step hm hk1
  exact ⟨cell_of h1.fn rfl, cell_of (h2.node c _ h.here).1.cells rfl⟩
theorem cp_call {f k left1 : Nat} {s : ByteArray} (hk : ∀ p ∈ d.names, T.deep f p.2) (IH : ∀ (n : Nat) (L : List (Nat × Nat)) (C : Nat → Option Nd) (P : Nat → Prop) (w : World), T.deep f n → CX Bt B w mc cc md T → CM B w md L C → Cp T L C P → Calls Tryz.prog 72 #[nP n, nP mc, nP cc] w fun e w' => CpPost B md T L C P n w e w')
    (h : CpLoop Bt B md mc cc T L C P n c mb r d bv w wr L2 C' done left) (hdm : d.mb < w.heap.size ∧ d.mb ≠ md) (hm : md < w.heap.size ∧ B ≤ md) (hmem : (s, k) ∈ d.names) (hnot : s ∉ done.map (·.1)) (hit : ItAt w1 d.mb r d.names (done ++ [(s, k)]) left1) (hk1 : Kept (fun b => b = r) wr w1) :
    ∀ W, Below w1.heap.size w1 W → Calls Tryz.prog 72 #[.pointer (some ⟨k, 0, none⟩), .pointer (some ⟨mc, 0, none⟩), .pointer (some ⟨cc, 0, none⟩)] W fun e w2 => ∃ c0 w3, e = .returned (.pointer (some ⟨c0, 0, none⟩)) ∧ w2.cell? ⟨c, 2, none⟩ = some (.map (some mb)) ∧ (Instr.mapUpdate 124 (.map (some mb)) (.string s) (.pointer (some ⟨c0, 0, none⟩))).run Tryz.prog w2 = .ok () w3 ∧ Hid (∃ L4 C4, CpLoop Bt B md mc cc T L C P n c mb r d bv w w3 L4 C4 (done ++ [(s, k)]) left1) := fun W hb => by
  obtain ⟨h1, h2, h3⟩ := h.step hm hk1
  refine (IH k _ _ _ W (hk (s, k) hmem) (h1.below hb) (h2.below hb) h.cp).mono ?_
  rintro e w2 ⟨L3, C3, c0, he, hm2, hp2, hl2, hext, hk2⟩
  have hhere := hext _ _ h.here
  have hn3 := (hm2.node c _ hhere).1
  obtain ⟨w3, hrun, hm3, hk3⟩ := run_update_names (hn3.map rfl) s (look_none_of (by rw [cpN_keys]; exact hnot)) c0
  obtain ⟨C4, h4⟩ := CpLoop.next (h1.below hb) (hit.kept (Kept.of_below hb (fun _ => False)) (fun h => h) (fun h => h)) (h3.then_below hb) h.new h.here h.old h.ins h.cn (h2.below hb).made hm.2 hdm hm.1 hm2 hp2 hl2 hext hk2 hm3 hk3
  exact ⟨c0, w3, he, cell_of hn3.cells rfl, hrun, _, C4, h4⟩
end
section
attribute [local go_sem ↓] ap_rule
set_option maxRecDepth 100000 in
set_option maxHeartbeats 2000000 in
theorem copied_walk {Bt B : Nat} {T : Tr} {mc cc md : Nat} (hT : TW T) (hdl : ∀ n d, T.nd n = some d → d.data.length ≤ 65536) : ∀ (f n : Nat) (L : List (Nat × Nat)) (C : Nat → Option Nd) (P : Nat → Prop) (w : World), T.deep f n → CX Bt B w mc cc md T → CM B w md L C → Cp T L C P →
    Calls Tryz.prog 72 #[nP n, nP mc, nP cc] w fun e w' => CpPost B md T L C P n w e w'
  | 0, _, _, _, _, _, hdeep, _, _, _ => hdeep.elim
  | f + 1, n, L, C, P, w, hdeep, hX, hM, hC => by
    have IH : Hid (∀ (n : Nat) (L : List (Nat × Nat)) (C : Nat → Option Nd) (P : Nat → Prop) (w : World), T.deep f n → CX Bt B w mc cc md T → CM B w md L C → Cp T L C P → Calls Tryz.prog 72 #[nP n, nP mc, nP cc] w fun e w' => CpPost B md T L C P n w e w') := copied_walk hT hdl f
    obtain ⟨d, hd, hk⟩ := hdeep
    have HX := Lib.hid hX
    have HM := Lib.hid hM
    have HC := Lib.hid hC
    have HN := Lib.hid (hX.rep.node n d hd)
    have HD := Lib.hid hd
    have HK := Lib.hid hk
    have HT := Lib.hid hT
    have HLB := Lib.hid (hX.nodes hC)
    have HNB : Hid (NodeB w n) := ⟨_, HN.out.cells⟩
    have m0 : w.cell? ⟨mc, 0, none⟩ = some (.map (some md)) := cell_of hX.mcell rfl
    have hlk := run_lookup_made HM.out.made HNB.out HLB.out
    have HDL := Lib.hid (hdl n d hd)
    clear hX hM hC hd hk hdl
    show Calls _ _ _ _ _
    unfold nP at hlk ⊢
    cases hL : lkC L n with
    | some c =>
      have HPO : Hid (CpPost B md T L C P n w (.returned (nP c)) w) := ⟨[], C, c, rfl, by rw [List.append_nil]; exact HM.out, by rw [List.append_nil]; exact HC.out, by rw [List.append_nil]; exact hL, fun _ _ h => h, Kept.refl _ _⟩
      rw [hL] at hlk
      simp only [ptrV_some] at hlk
      clear hL
      go_enter Tryz.func72, Tryz.ntmps72
      go_wp2_with fail
      go_ret
      exact HPO.out
    | none =>
      have HL := Lib.hid hL
      rw [hL] at hlk
      replace hlk : (Instr.lookup 143 (.map (some md)) (.pointer (some ⟨n, 0, none⟩)) false).run Tryz.prog w = .ok (.pointer none) w := hlk
      clear hL
      obtain ⟨ba, bc, hbv⟩ := owns_form HN.out.row
      have g0 : w.cell? ⟨n, 0, none⟩ = some (.bool d.dir) := cell_of (o := 0) HN.out.cells rfl
      have g1 : w.cell? ⟨n, 1, none⟩ = some d.bv := cell_of (o := 1) HN.out.cells rfl
      have g2 : w.cell? ⟨n, 2, none⟩ = some (mapV d) := cell_of (o := 2) HN.out.cells rfl
      have g3 : w.cell? ⟨n, 3, none⟩ = some (.int .i64 d.links) := cell_of (o := 3) HN.out.cells rfl
      have g4 : w.cell? ⟨n, 4, none⟩ = some (.int .i64 d.tick) := cell_of (o := 4) HN.out.cells rfl
      rw [hbv] at g1
      have hsrc : Src w.drew (.slice ba d.data.length bc) d.data := by
        have h := Src.of_owns HN.out.row
        rw [hbv] at h
        exact h.kept (Kept.of_below (Below.refl _ _).drew (fun _ => False)) (fun _ _ h => h)
      obtain ⟨hok, hn2, hown2, hgrow2⟩ := ap_known (w := w.drew) w.heap.size (.slice none 0 0) 0 [] (World.ownsRow_nil _ _ _ _) (.slice ba d.data.length bc) d.data hsrc (by have := HDL.out; omega) (Nat.le_refl _)
      have hn2 : apN w.drew (.slice none 0 0) (.slice ba d.data.length bc) = d.data.length := by rw [hn2]; omega
      have HOW : Hid ((apW w.drew (.slice none 0 0) (.slice ba d.data.length bc)).ownsRow w.heap.size 5 1 (.slice (apA w.drew (.slice none 0 0) (.slice ba d.data.length bc)) d.data.length (apC w.drew (.slice none 0 0) (.slice ba d.data.length bc))) d.data.length (u8s d.data)) := Lib.hid (by rw [hn2] at hown2; simpa using hown2)
      have HBA : Hid (Below w.heap.size w (apW w.drew (.slice none 0 0) (.slice ba d.data.length bc))) := (Below.refl _ _).drew.grown hgrow2 (Nat.le_refl _) (fun q hq => by simp [Value.ownBlock] at hq)
      have a0 := below_cell HBA.out g0
      have a1 := below_cell HBA.out g1
      have a3 := below_cell HBA.out g3
      have a4 := below_cell HBA.out g4
      have HSZ := Lib.hid HBA.out.size
      clear hown2 hgrow2 hsrc hbv
      cases hdir : d.dir with
      | false =>
        have HDIR := Lib.hid hdir
        rw [hdir] at g0 a0
        obtain ⟨W2, hW2⟩ : ∃ W2, W2 = (apW w.drew (.slice none 0 0) (.slice ba d.data.length bc)).alloc (.cells #[.bool false, (.slice (apA w.drew (.slice none 0 0) (.slice ba d.data.length bc)) d.data.length (apC w.drew (.slice none 0 0) (.slice ba d.data.length bc))), .map none, .int .i64 d.links, .int .i64 d.tick] 126) := ⟨_, rfl⟩
        have HB2 : Hid (Below w.heap.size w W2) := by rw [hW2]; exact HBA.out.trans ((below_alloc _ _).mono HBA.out.size)
        have HC2 : Hid (W2.heap[(apW w.drew (.slice none 0 0) (.slice ba d.data.length bc)).heap.size]? = some (.cells #[.bool false, (.slice (apA w.drew (.slice none 0 0) (.slice ba d.data.length bc)) d.data.length (apC w.drew (.slice none 0 0) (.slice ba d.data.length bc))), .map none, .int .i64 d.links, .int .i64 d.tick] 126 (0, 0))) := by rw [hW2]; exact heap_alloc_new _ _
        have HR2 : Hid (W2.ownsRow w.heap.size 5 1 (.slice (apA w.drew (.slice none 0 0) (.slice ba d.data.length bc)) d.data.length (apC w.drew (.slice none 0 0) (.slice ba d.data.length bc))) d.data.length (u8s d.data)) := by rw [hW2]; exact World.ownsRow.alloc HOW.out _
        have HM2 := Lib.hid (HM.out.made.kept (Kept.of_below HB2.out (fun _ => False)) (fun h => h))
        have HN2 : Hid (NodeB W2 n) := HNB.out.kept (Kept.of_below HB2.out (fun _ => False)) (fun h => h)
        have HL2 : Hid (∀ p ∈ L, NodeB W2 p.1) := fun p hp => (HLB.out p hp).kept (Kept.of_below HB2.out (fun _ => False)) (fun h => h)
        have b0 := below_cell HB2.out g0
        have bm := below_cell HB2.out m0
        have HPO : Hid (∀ w3, MadeAt w3 md (L ++ [(n, (apW w.drew (.slice none 0 0) (.slice ba d.data.length bc)).heap.size)]) → Kept (fun b => b = md) W2 w3 → CpPost B md T L C P n w (.returned (nP (apW w.drew (.slice none 0 0) (.slice ba d.data.length bc)).heap.size)) w3 ∧ w3.cell? ⟨n, 0, none⟩ = some (.bool false)) := fun w3 h1 h2 => ⟨cp_file HM.out HC.out HX.out.base HD.out hdir (HT.out.file n d HD.out hdir) HL.out HB2.out HSZ.out HC2.out HR2.out h1 h2, by
          obtain ⟨es, ck, hmd, _⟩ := HM2.out
          obtain ⟨cn, hcn⟩ := HN2.out
          rw [← b0]
          exact h2.cell (p := ⟨n, 0, none⟩) (lt_of_heap hcn) (fun e => by rw [show n = md from e] at hcn; exact cells_ne_map hcn hmd rfl)⟩
        have HW2 := Lib.hid hW2
        clear hW2 hdir HOW HBA HSZ HC2 HR2 HN HNB HLB HX HM HC HK HT IH HDL
        go_enter Tryz.func72, Tryz.ntmps72
        go_wp2_with fail
        go_region
        all_goals
          rw [← HW2.out]
          clear a0 a1 a3 a4 g0 g1 g2 g3 g4 hok hn2 m0 hlk
          generalize (apW w.drew (.slice none 0 0) (.slice ba d.data.length bc)).heap.size = c at *
          go_wp2_with (at_mapUpdate; refine wpList_update_made _ rfl _ _ _ rfl md n c L rfl rfl rfl HM2.out HN2.out HL2.out HL.out ?_; intro w3 h1 h2; have HP3 := Lib.hid (HPO.out w3 h1 h2).1; have q0 := (HPO.out w3 h1 h2).2; clear h1 h2)
          go_ret
          exact HP3.out
      | true =>
        have HDIR := Lib.hid hdir
        rw [hdir] at g0 a0
        have hmv : mapV d = .map (some d.mb) := by unfold mapV; rw [hdir]; rfl
        rw [hmv] at g2
        obtain ⟨W2, hW2⟩ : ∃ W2, W2 = (apW w.drew (.slice none 0 0) (.slice ba d.data.length bc)).alloc (.cells #[.bool true, (.slice (apA w.drew (.slice none 0 0) (.slice ba d.data.length bc)) d.data.length (apC w.drew (.slice none 0 0) (.slice ba d.data.length bc))), .map none, .int .i64 d.links, .int .i64 d.tick] 126) := ⟨_, rfl⟩
        have HB2 : Hid (Below w.heap.size w W2) := by rw [hW2]; exact HBA.out.trans ((below_alloc _ _).mono HBA.out.size)
        have HC2 : Hid (W2.heap[(apW w.drew (.slice none 0 0) (.slice ba d.data.length bc)).heap.size]? = some (.cells #[.bool true, (.slice (apA w.drew (.slice none 0 0) (.slice ba d.data.length bc)) d.data.length (apC w.drew (.slice none 0 0) (.slice ba d.data.length bc))), .map none, .int .i64 d.links, .int .i64 d.tick] 126 (0, 0))) := by rw [hW2]; exact heap_alloc_new _ _
        have HR2 : Hid (W2.ownsRow w.heap.size 5 1 (.slice (apA w.drew (.slice none 0 0) (.slice ba d.data.length bc)) d.data.length (apC w.drew (.slice none 0 0) (.slice ba d.data.length bc))) d.data.length (u8s d.data)) := by rw [hW2]; exact World.ownsRow.alloc HOW.out _
        have HM2 := Lib.hid (HM.out.made.kept (Kept.of_below HB2.out (fun _ => False)) (fun h => h))
        have HN2 : Hid (NodeB W2 n) := HNB.out.kept (Kept.of_below HB2.out (fun _ => False)) (fun h => h)
        have HL2 : Hid (∀ p ∈ L, NodeB W2 p.1) := fun p hp => (HLB.out p hp).kept (Kept.of_below HB2.out (fun _ => False)) (fun h => h)
        have bm := below_cell HB2.out m0
        have HW2 := Lib.hid hW2
        have hmm := @run_makeMap Tryz.prog
        have HND := Lib.hid (HT.out.keys n d HD.out)
        clear hW2 hdir HOW HBA hmv
        go_enter Tryz.func72, Tryz.ntmps72
        go_wp2_with fail
        go_region
        all_goals
          rw [← HW2.out]
          clear a0 a1 a3 a4 hok hn2 m0 hlk HW2
          generalize (Value.slice (apA w.drew (.slice none 0 0) (.slice ba d.data.length bc)) d.data.length (apC w.drew (.slice none 0 0) (.slice ba d.data.length bc))) = bv at *
          generalize (apW w.drew (.slice none 0 0) (.slice ba d.data.length bc)).heap.size = c at *
          -- what stands behind the map of what was made
          have H3 : Hid (∀ w3, Kept (fun b => b = md) W2 w3 → w3.cell? ⟨n, 0, none⟩ = some (.bool true) ∧ (w3.alloc (.map #[] 0)).cell? ⟨c, 2, none⟩ = some (.map none) ∧ (w3.alloc (.map #[] 0)).frozen? ⟨c, 2, none⟩ = false ∧ ((w3.alloc (.map #[] 0)).setCell ⟨c, 2, none⟩ (.map (some w3.heap.size))).cell? ⟨n, 2, none⟩ = some (.map (some d.mb)) ∧ MapAt ((w3.alloc (.map #[] 0)).setCell ⟨c, 2, none⟩ (.map (some w3.heap.size))) d.mb d.names) := fun w3 hk3 => by
            obtain ⟨es, ck, hmd, _⟩ := HM2.out
            have hmdw : md < w.heap.size := by
              obtain ⟨es, ck, hmd, _⟩ := HM.out.made
              exact lt_of_heap hmd
            have hcw : w.heap.size ≤ c := HSZ.out
            have hn2 : W2.heap[n]? = _ := below_heap HB2.out (lt_of_heap HN.out.cells) HN.out.cells
            have hnw := lt_of_heap HN.out.cells
            have hn3 := (hk3.block n (lt_of_heap hn2) (fun e => by rw [show n = md from e] at hn2; exact cells_ne_map hn2 hmd rfl)).trans hn2
            have hc3 := (hk3.block c (lt_of_heap HC2.out) (fun e => by have e : c = md := e; omega)).trans HC2.out
            have hca := below_heap (below_alloc w3 (.map #[] 0)) (lt_of_heap hc3) hc3
            have hna := below_heap (below_alloc w3 (.map #[] 0)) (lt_of_heap hn3) hn3
            have hnd : ((w3.alloc (.map #[] 0)).setCell ⟨c, 2, none⟩ (.map (some w3.heap.size))).heap[n]? = _ := (heap_set_other _ _ _ (show n ≠ c by omega)).trans hna
            have k : Kept (fun b => b = md ∨ b = c) w ((w3.alloc (.map #[] 0)).setCell ⟨c, 2, none⟩ (.map (some w3.heap.size))) := (((Kept.of_below HB2.out (fun b => b = md ∨ b = c)).trans hk3 (fun _ h => .inl (.inl h))).then_below (below_alloc w3 _)).setCell (p := ⟨c, 2, none⟩) (.inl (.inr rfl)) _
            have hdirt : d.dir = true := HDIR.out
            have hmv : mapV d = .map (some d.mb) := by unfold mapV; rw [hdirt]; rfl
            refine ⟨?_, cell_of hca rfl, free_of hca 2, ?_, (HN.out.map hdirt).kept k ?_⟩
            · have := cell_of (o := 0) hn3 rfl
              rw [hdirt] at this
              exact this
            · have := cell_of (o := 2) hnd rfl
              rw [hmv] at this
              exact this
            · rintro (e | e)
              · have h1 := HX.out.lowT d.mb (.inr (.inr ⟨n, d, HD.out, .inl ⟨hdirt, rfl⟩⟩))
                have h2 := HM.out.low
                omega
              · obtain ⟨es2, ck2, h2, _⟩ := HN.out.map hdirt
                have := lt_of_heap h2
                omega
          have HLO : Hid (∀ w3 w6 r left, MadeAt w3 md (L ++ [(n, c)]) → Kept (fun b => b = md) W2 w3 → r = ((w3.alloc (.map #[] 0)).setCell ⟨c, 2, none⟩ (.map (some w3.heap.size))).heap.size → Below ((w3.alloc (.map #[] 0)).setCell ⟨c, 2, none⟩ (.map (some w3.heap.size))).heap.size ((w3.alloc (.map #[] 0)).setCell ⟨c, 2, none⟩ (.map (some w3.heap.size))) w6 → ItAt w6 d.mb r d.names [] left → CpLoop Bt B md mc cc T L C P n c w3.heap.size r d bv w w6 [] (updC C c ⟨true, bv, d.data, [], w3.heap.size, d.links, d.tick⟩) [] left) := fun w3 w6 r left h1 h2 h3 h4 h5 => cp_dir HX.out HM.out HC.out HD.out HDIR.out HL.out HB2.out HSZ.out HC2.out HR2.out h1 h2 rfl rfl h3 h4 h5
          have HDM : Hid (d.mb < w.heap.size ∧ d.mb ≠ md) := by
            obtain ⟨es2, ck2, h2, _⟩ := HN.out.map HDIR.out
            have h1 := HX.out.lowT d.mb (.inr (.inr ⟨n, d, HD.out, .inl ⟨HDIR.out, rfl⟩⟩))
            have h3 := HM.out.low
            exact ⟨lt_of_heap h2, fun e => by omega⟩
          have HMW : Hid (md < w.heap.size ∧ B ≤ md) := by
            obtain ⟨es, ck, hmd, _⟩ := HM.out.made
            exact ⟨lt_of_heap hmd, HM.out.low⟩
          clear HC2 HR2 HB2 HN HNB HLB HX HM HC HSZ g0 g1 g2 g3 g4 HDL
          go_wp2_with (first
            | (at_mapUpdate; refine wpList_update_made _ rfl _ _ _ rfl md n c L rfl rfl rfl HM2.out HN2.out HL2.out HL.out ?_; intro w3 h1 h2; obtain ⟨q0, q2, qf, qn, qm⟩ := H3.out w3 h2; have HMM := Lib.hid h1; have HKK := Lib.hid h2; have HQM := Lib.hid qm; clear h1 h2 qm)
            | (at_range; refine wpList_range_names _ rfl _ rfl d.mb d.names rfl HQM.out ?_; intro w6 left h5 h6 h7; have HLP := Lib.hid (HLO.out w3 w6 _ left HMM.out HKK.out rfl h6 h5); clear h5 h6 h7))
          go_frame
          clear q0 q2 qf qn HMM HKK HQM HLO H3 HM2 HN2 HL2
          generalize ((w3.alloc (.map #[] 0)).setCell ⟨c, 2, none⟩ (.map (some w3.heap.size))).heap.size = r at *
          generalize w3.heap.size = mb at *
          go_loopw [6] (fun _ wr => ∃ L2 C' done left, Hid (CpLoop Bt B md mc cc T L C P n c mb r d bv w wr L2 C' done left)) (fun _ wr => wr.rangeLeft d.mb r)
          case atStart => exact ⟨_, _, _, _, HLP⟩
          case round =>
            clear HLP
            obtain ⟨L2, C', done, left, hlp⟩ := hrel
            have HIT := Lib.hid hlp.out.it
            go_wp2_with (at_next; refine wpList_next_names _ rfl _ rfl d.mb r d.names done left rfl HIT.out HND.out ?_ ?_)
            · intro hperm
              have HPO := Lib.hid (hlp.out.done HD.out HL.out hperm)
              clear hperm hlp
              go_wp2_with fail
              go_ret
              exact HPO.out
            · intro s k w1 left1 hmem hnot hit1 hlt hk1 hs1 hen
              have HNX : Hid (∀ W, Below w1.heap.size w1 W → Calls Tryz.prog 72 #[.pointer (some ⟨k, 0, none⟩), .pointer (some ⟨mc, 0, none⟩), .pointer (some ⟨cc, 0, none⟩)] W fun e w2 => ∃ c0 w3, e = .returned (.pointer (some ⟨c0, 0, none⟩)) ∧ w2.cell? ⟨c, 2, none⟩ = some (.map (some mb)) ∧ (Instr.mapUpdate 124 (.map (some mb)) (.string s) (.pointer (some ⟨c0, 0, none⟩))).run Tryz.prog w2 = .ok () w3 ∧ Hid (∃ L4 C4, CpLoop Bt B md mc cc T L C P n c mb r d bv w w3 L4 C4 (done ++ [(s, k)]) left1)) :=
                cp_call HK.out IH.out hlp.out HDM.out HMW.out hmem (by simpa using hnot) hit1 hk1
              have hf0 : w1.cell? ⟨cc, 0, none⟩ = some (.func (.func 72) #[] #[.pointer (some ⟨mc, 0, none⟩), .pointer (some ⟨cc, 0, none⟩)]) := (cp_cells hlp.out HMW.out hk1).1
              have hc2 : w1.cell? ⟨c, 2, none⟩ = some (.map (some mb)) := (cp_cells hlp.out HMW.out hk1).2
              have HID := Lib.hid (HNX.out w1.drew (Below.refl _ _).drew)
              have HLT := Lib.hid hlt
              clear HNX hmem hnot hit1 hk1 hs1 hlt
              go_wp2_with fail
              go_region_with (go_at_call 72; refine HID.out.mono ?_; rintro e w2 ⟨c0, w4, rfl, hc2', hrun, HNX⟩)
              all_goals
                go_wp2_with fail
                go_roundw
                case rel => obtain ⟨L4, C4, h⟩ := HNX.out; exact ⟨_, _, _, _, h⟩
                case measure => obtain ⟨L4, C4, h⟩ := HNX.out; rw [h.it.left_eq, hlp.out.it.left_eq]; exact HLT.out
end
end Go.Proofs.YtjhojohjegkinaaGreatDoor
