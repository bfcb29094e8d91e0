/-
 The document's Text: a line a path.
-/
import Derived.Test.YteeeaeiafdgpkaaGreatDoorRefA
import Derived.Test.YteeeaeiafdgpkaaGreatDoorBothA
import Derived.Lib.AppendIntMem
import Derived.Deep.RegionHeld3
import Derived.Lib.LaidTab
namespace Go.Proofs.YteeeaeiafdgpkaaGreatDoor
open Go Go.RowKit
open Go.Lib (hid)
def TabB (B : Nat) (w : World) : Prop := Lib.TabBelow Tryz.prog B w "internal/strconv.uint64pow10" .u64 Lib.pow10Tab
theorem TabB.on {B : Nat} {w w' : World} (h : TabB B w) (hb : Below B w w') : TabB B w' := Lib.TabBelow.on h hb
theorem itoa_dec {n : Int} (h : 0 ≤ n) : Lib.itoa n = Lib.decDigits n.toNat := by unfold Lib.itoa; rw [if_neg (by omega)]
theorem dec_size {n : Int} (_h0 : 0 ≤ n) (h1 : n ≤ 4611686018427387904) : (⟨(Lib.decDigits n.toNat).toArray⟩ : ByteArray).size ≤ 21 := by
 have := dec_len h1
 unfold dec at this
 show (Lib.decDigits n.toNat).toArray.size ≤ 21
 rw [List.size_toArray]
 omega
theorem itoa_ok (n : Int) (h0 : 0 ≤ n) (h1 : n ≤ 4611686018427387904) {B : Nat} (w : World) (ht : TabB B w) :
  Calls Tryz.prog 44 #[.int .i64 n] w fun e w' => DecPost w (Lib.decDigits n.toNat) e w' := by
 refine (Tryz.strconv_Itoa n (by omega) (by omega) w (Lib.TabBelow.here ht)).mono ?_
 rintro e w' ⟨rfl, k, os, rfl⟩
 rw [itoa_dec h0]
 exact ⟨_, rfl, rfl, dec_size h0 h1, Lib.below_grow _ _ (Nat.le_refl _) _ _⟩
theorem format_ok (n : Int) (h0 : 0 ≤ n) (h1 : n ≤ 4611686018427387904) {B : Nat} (w : World) (ht : TabB B w) :
  Calls Tryz.prog 46 #[.int .i64 n, .int .i64 10] w fun e w' => DecPost w (Lib.decDigits n.toNat) e w' := by
 refine (Tryz.strconv_FormatInt_10 n (by omega) (by omega) w (Lib.TabBelow.here ht)).mono ?_
 rintro e w' ⟨rfl, k, os, rfl⟩
 rw [itoa_dec h0]
 exact ⟨_, rfl, rfl, dec_size h0 h1, Lib.below_grow _ _ (Nat.le_refl _) _ _⟩
def rline (R : RT) (e : Ent) : List UInt8 := match R.nd e.2 with
 | none => []
 | some d => e.1 ++ (if e.1 = [] then [47] else []) ++ (if d.dir then [32, 100, 32] else [32, 102, 32] ++ dec d.data.length ++ [32] ++ dec (za4 R.L e.2) ++ [32]) ++ (dec d.tick ++ [10])
def RT.txt (R : RT) : List UInt8 := R.L.flatMap (rline R)
def RT.txtTo (R : RT) (k : Nat) : List UInt8 := (R.L.take k).flatMap (rline R)
theorem RT.txtTo_succ (R : RT) {k : Nat} (h : k < R.L.length) : R.txtTo (k + 1) = R.txtTo k ++ rline R R.L[k] := by
 unfold RT.txtTo
 rw [List.take_add_one, List.getElem?_eq_getElem h, List.flatMap_append]
 simp
theorem RT.txtTo_le (R : RT) (k : Nat) : (R.txtTo k).length ≤ R.txt.length := by
 have h : R.txt = R.txtTo k ++ (R.L.drop k).flatMap (rline R) := by
  unfold RT.txt RT.txtTo
  rw [← List.flatMap_append, List.take_append_drop]
 rw [h, List.length_append]
 omega
theorem RT.txtTo_all (R : RT) : R.txtTo R.L.length = R.txt := by unfold RT.txtTo RT.txt; rw [List.take_length]
structure RTxT (R : RT) : Prop where
 len : R.L.length ≤ 100000
 tick : ∀ e ∈ R.L, ∀ d, R.nd e.2 = some d → 0 ≤ d.tick ∧ d.tick ≤ 4611686018427387904 ∧ d.data.length ≤ 65536
 path : ∀ e ∈ R.L, e.1.length ≤ 100000
 txt : R.txt.length ≤ 140737488355328
def zfl (p : List UInt8) : List UInt8 := if p = [] then [47] else p
theorem plainP_eq (p : List UInt8) : p ++ (if p = [] then [47] else []) = zfl p := by
 unfold zfl
 by_cases h : p = []
 ·rw [if_pos h, if_pos h, h]; rfl
 ·rw [if_neg h, if_neg h, List.append_nil]
theorem data_bl (S : ByteArray) : S.data.toList = bl S := rfl
theorem dir_rline {R : RT} {S P D : ByteArray} {p : List UInt8} {n : Nat} {d : RNd} {acc : List UInt8} (hn : R.nd n = some d) (hd : d.dir = true) (hS : bl S = acc) (hP : bl P = zfl p) (hD : D.data.toList = Lib.decDigits d.tick.toNat) :
  bl (S ++ (P ++ (⟨#[32, 100]⟩ : ByteArray)) ++ ((⟨#[32]⟩ : ByteArray) ++ D ++ (⟨#[10]⟩ : ByteArray))) = acc ++ rline R (p, n) := by
 unfold rline
 rw [hn]
 dsimp only
 rw [plainP_eq, hd]
 simp only [zeq, hS, hP, data_bl D ▸ hD]
 unfold dec
 simp [bl]
theorem file_rline {R : RT} {S P A L D : ByteArray} {p : List UInt8} {n : Nat} {d : RNd} {acc : List UInt8} (hn : R.nd n = some d) (hd : d.dir = false) (hS : bl S = acc) (hP : bl P = zfl p) (hA : A.data.toList = Lib.decDigits (d.data.length : Int).toNat) (hL : L.data.toList = Lib.decDigits (za4 R.L n : Int).toNat) (hD : D.data.toList = Lib.decDigits d.tick.toNat) :
  bl (S ++ (P ++ (⟨#[32, 102, 32]⟩ : ByteArray) ++ A ++ (⟨#[32]⟩ : ByteArray) ++ L) ++ ((⟨#[32]⟩ : ByteArray) ++ D ++ (⟨#[10]⟩ : ByteArray))) = acc ++ rline R (p, n) := by
 unfold rline
 rw [hn]
 dsimp only
 rw [plainP_eq, hd]
 simp only [zeq, hS, hP, data_bl D ▸ hD, data_bl A ▸ hA, data_bl L ▸ hL]
 unfold dec
 simp [bl]
structure LX (B : Nat) (R : RT) (w : World) (eb : Nat) (P : ByteArray) (xn : Nat) (W : World) : Prop where
 below : Below w.heap.size w W
 ent : W.heap[eb]? = some (.cells #[.string P, .pointer (some ⟨xn, 0, none⟩)] 70 (0, 0))
 rrep : RRep B W R
theorem LX.next {B : Nat} {R : RT} {w : World} {eb : Nat} {P : ByteArray} {xn : Nat} {W W' : World} (h : LX B R w eb P xn W) (hb : Below W.heap.size W W') : LX B R w eb P xn W' :=
 ⟨zaf h.below hb, zae hb (zab h.ent) h.ent, h.rrep.below hb⟩
theorem LX.drew {B : Nat} {R : RT} {w : World} {eb : Nat} {P : ByteArray} {xn : Nat} {W : World} (h : LX B R w eb P xn W) : LX B R w eb P xn W.drew := h.next ((Below.refl _ _).drew)
theorem LX.dat {B : Nat} {R : RT} {w : World} {eb : Nat} {P : ByteArray} {xn : Nat} {W : World} (h : LX B R w eb P xn W) {d : RNd} (hd : R.nd xn = some d) {v : Value} (hv : d.dv = v) : W.cell? ⟨xn, 1, none⟩ = some v := by
 rw [← hv]
 exact zaa (o := 1) (h.rrep.node xn d hd).1 rfl
theorem LX.tick {B : Nat} {R : RT} {w : World} {eb : Nat} {P : ByteArray} {xn : Nat} {W : World} (h : LX B R w eb P xn W) {d : RNd} (hd : R.nd xn = some d) : W.cell? ⟨xn, 2, none⟩ = some (.int .i64 d.tick) :=
 zaa (o := 2) (h.rrep.node xn d hd).1 rfl
def LXo (B : Nat) (R : RT) (w : World) (eb : Nat) (P : ByteArray) (xn : Nat) (da : Option Addr) (dl dc : Nat) (tk : Int) (W : World) : Prop := W.cell? ⟨eb, 1, none⟩ = some (.pointer (some ⟨xn, 0, none⟩)) ∧ W.cell? ⟨xn, 1, none⟩ = some (.slice da dl dc) ∧ W.cell? ⟨xn, 2, none⟩ = some (.int .i64 tk) ∧ Hid (LX B R w eb P xn W)
set_option maxRecDepth 100000 in
set_option maxHeartbeats 2000000 in
theorem ref_text {B B0 : Nat} {R : RT} (w : World) (hR : RRep B w R) (hT : RTxT R) (ht : TabB B0 w) (h0 : B0 ≤ w.heap.size) :
  Calls Tryz.prog 14 #[.pointer (some ⟨R.tb, 0, none⟩)] w fun e w' => VPost w (.string ⟨R.txt.toArray⟩) e w' := by
 obtain ⟨a, c, hlv, hent⟩ := hR.ent
 have hc0 : w.cell? ⟨R.tb, 0, none⟩ = some (.slice a R.L.length c) := by
  have h := zaa (o := 0) hR.tree rfl
  rw [hlv] at h
  exact h
 have HE := hid hent
 have HR := hid hR
 have HT := hid hT
 have HTAB : Hid (∀ w', Below w.heap.size w w' → TabB B0 w') := fun w' h => ht.on (h.mono h0)
 have hLL : R.L.length ≤ 100000 := hT.len
 clear hR hlv hent hT ht h0
 go_enter Tryz.func14, Tryz.ntmps14
 go_wp2_with fail
 go_loopw [3, 12] (fun sv idx wr => ∃ k : Nat, k ≤ R.L.length ∧ idx = .int .i64 k ∧ (∃ S : ByteArray, sv = .string S ∧ Hid (bl S = R.txtTo k)) ∧ Hid (Below w.heap.size w wr)) (fun _ idx _ => R.L.length - (intOf idx).toNat)
 case atStart => exact ⟨0, Nat.zero_le _, rfl, ⟨⟨#[]⟩, rfl, rfl⟩, Below.refl _ _⟩
 case round =>
  obtain ⟨k, hk, rfl, ⟨S, rfl, hS⟩, hb⟩ := hrel
  have hSz : S.size ≤ 140737488355328 := by
   have h1 := R.txtTo_le k
   have h2 := HT.out.txt
   have h3 : S.size = (bl S).length := Lib.size_eq S
   rw [hS.out] at h3
   omega
  by_cases hlt : k < R.L.length
  ·obtain ⟨g, rfl, q1, q2⟩ := HE.out k hlt
   have c1 := (hb.out.cell (World.block_lt_of_cell? _ _ q1)).trans q1
   have c2 := (hb.out.cell (World.block_lt_of_cell? _ _ q2)).trans q2
   have hki : (k : Int) < R.L.length := by omega
   have HA := hid (R.txtTo_succ hlt)
   obtain ⟨d, hd⟩ := HR.out.ents _ (List.getElem_mem hlt)
   have HPL := hid (HT.out.path _ (List.getElem_mem hlt))
   have HTK := hid (HT.out.tick _ (List.getElem_mem hlt))
   clear q1 q2
   generalize R.L[k] = x at *
   obtain ⟨xp, xn⟩ := x
   have HD : Hid (R.nd xn = some d) := hd
   obtain ⟨ht0, ht1, hdl⟩ := HTK.out d hd
   obtain ⟨da, dc, hdv⟩ := zak (HR.out.node xn d hd).2
   simp only [zb2, zau] at c1 c2
   obtain ⟨P, hP⟩ : ∃ P : ByteArray, P = ⟨xp.toArray⟩ := ⟨_, rfl⟩
   rw [← hP] at c1
   have hPz : P.size ≤ 100000 := by
    have h1 : P.size = xp.length := by rw [hP]; show xp.toArray.size = _; exact List.size_toArray
    have h2 : xp.length ≤ 100000 := HPL.out
    omega
   have HP := hid hP
   clear hP hd
   obtain ⟨W, hW⟩ : ∃ W, W = wr.alloc (.cells #[.string P, .pointer (some ⟨xn, 0, none⟩)] 70) := ⟨_, rfl⟩
   have HW := hid hW
   have HB : Hid (Below w.heap.size w W) := by rw [hW]; exact hb.out.trans ((Below.refl _ wr).alloc hb.out.size _)
   have HEB : Hid (W.heap[wr.heap.size]? = some (.cells #[.string P, .pointer (some ⟨xn, 0, none⟩)] 70 (0, 0))) := by rw [hW]; exact heap_alloc_new wr _
   have HEL : Hid (w.heap.size ≤ wr.heap.size) := hb.out.size
   have HRN : Hid (RRep B W R) := HR.out.below HB.out
   clear hW hb
   go_upto_region 5 with fail
   rw [← HW.out]
   clear HW c1 c2
   generalize wr.heap.size = eb at *
   have e0 := zaa (o := 0) HEB.out rfl
   have e1 := zaa (o := 1) HEB.out rfl
   have n0 := zaa (o := 0) (HRN.out.node xn d HD.out).1 rfl
   have n1 := zaa (o := 1) (HRN.out.node xn d HD.out).1 rfl
   have n2 := zaa (o := 2) (HRN.out.node xn d HD.out).1 rfl
   rw [hdv] at n1
   have HDV := hid hdv
   clear hdv
   have HPE : Hid (P.toList = bl P) := ByteArray.toList_eq P
   go_upto_if 19 with fail
   go_cut [6, 12] from 12 to 58 (fun pv iv wx => iv = .int .i64 k ∧ W = wx ∧ ∃ Q : ByteArray, pv = .string Q ∧ Q.size ≤ 100001 ∧ Hid (bl Q = zfl xp))
   case first =>
    have hbp : bl P = xp := by rw [HP.out]; rfl
    by_cases hP : P.toList.isEmpty = true
    ·have e : xp = [] := by rw [← hbp, ← HPE.out]; simpa using hP
     have HQ : Hid (bl (⟨#[47]⟩ : ByteArray) = zfl xp) := by show _ = _; unfold zfl; rw [if_pos e]; rfl
     clear e hbp
     rw [hP]
     go_wp2_with fail
     go_meet
     case rel => exact ⟨rfl, rfl, _, rfl, by decide, HQ.out⟩
    ·have hPf : P.toList.isEmpty = false := by simpa using hP
     have e : ¬ xp = [] := by rw [← hbp, ← HPE.out]; simpa using hP
     have HQ : Hid (bl P = zfl xp) := by show _ = _; unfold zfl; rw [if_neg e, hbp]
     clear e hbp hP
     rw [hPf]
     go_wp2_with fail
     go_meet
     case rel => exact ⟨rfl, rfl, _, rfl, by omega, HQ.out⟩
   case rest =>
    obtain ⟨rfl, rfl, Q, rfl, hQz, hQ⟩ := hcut
    cases hdir : d.dir with
    | true =>
     rw [hdir] at n0
     have HDIR := hid hdir
     clear hdir
     have HF := hid (fun W (h : Below w.heap.size w W) => format_ok d.tick ht0 ht1 W (HTAB.out W h))
     go_wp2_with fail
     refine (HF.out _ HB.out).mono ?_
     rintro e w3 ⟨D, rfl, hD, hDz, hb3⟩
     have HL : Hid (bl (S ++ (Q ++ (⟨#[32, 100]⟩ : ByteArray)) ++ ((⟨#[32]⟩ : ByteArray) ++ D ++ (⟨#[10]⟩ : ByteArray))) = R.txtTo (k + 1)) := by
      show _ = _
      rw [HA.out]
      exact dir_rline HD.out HDIR.out hS.out hQ.out hD
     have HB3 : Hid (Below w.heap.size w w3) := zaf HB.out hb3
     clear hD hb3 HF
     go_wp2_with fail
     go_roundw
     case rel => exact ⟨k + 1, by omega, by go_num, ⟨_, rfl, HL.out⟩, HB3.out⟩
     case measure => simp [intOf]; omega
    | false =>
     rw [hdir] at n0
     have HDIR := hid hdir
     clear hdir
     have HF := hid (fun W (h : Below w.heap.size w W) => format_ok d.tick ht0 ht1 W (HTAB.out W h))
     obtain ⟨nl, hnl⟩ : ∃ nl : Int, nl = (za4 R.L xn : Nat) := ⟨_, rfl⟩
     have HNL := hid hnl
     have hlk0 : (0 : Int) ≤ nl := by omega
     have hlk1 : nl ≤ 100000 := by
      have h1 : za4 R.L xn ≤ R.L.length := by
       unfold za4
       have := List.count_le_length (a := xn) (l := R.L.map (·.2))
       rwa [List.length_map] at this
      omega
     have hdl0 : (0 : Int) ≤ d.data.length := by omega
     have hdl1 : (d.data.length : Int) ≤ 100000 := by omega
     have HX : Hid (LX B R w eb P xn W) := ⟨HB.out, HEB.out, HRN.out⟩
     have HLX : Hid (∀ W, LX B R w eb P xn W → W.cell? ⟨eb, 1, none⟩ = some (.pointer (some ⟨xn, 0, none⟩)) ∧ W.cell? ⟨xn, 1, none⟩ = some (.slice da d.data.length dc) ∧ W.cell? ⟨xn, 2, none⟩ = some (.int .i64 d.tick) ∧ Hid (LX B R w eb P xn W)) := fun W h => ⟨zaa (o := 1) h.ent rfl, LX.dat h HD.out HDV.out, LX.tick h HD.out, h⟩
     have HIT : Hid (∀ n W, 0 ≤ n → n ≤ 100000 → Hid (LX B R w eb P xn W) → Calls Tryz.prog 44 #[.int .i64 n] W fun e w' => (∃ Z : ByteArray, e = .returned (.string Z) ∧ Z.size ≤ 21 ∧ Hid (Z.data.toList = Lib.decDigits n.toNat)) ∧ LXo B R w eb P xn da d.data.length dc d.tick w') := fun n W h0 h1 hx =>
      (itoa_ok n h0 (by omega) W (HTAB.out W hx.out.below)).mono fun e w' ⟨Z, he, hZ, hz, hb⟩ => ⟨⟨Z, he, hz, hZ⟩, HLX.out w' (hx.out.next hb)⟩
     have HLK : Hid (∀ W, Hid (LX B R w eb P xn W) → Calls Tryz.prog 45 #[.pointer (some ⟨R.tb, 0, none⟩), .pointer (some ⟨xn, 0, none⟩)] W fun e w' => e = .returned (.int .i64 nl) ∧ LXo B R w eb P xn da d.data.length dc d.tick w') := fun W hx =>
      (ref_links xn W hx.out.rrep hLL HD.out).mono fun e w' ⟨he, hb⟩ => ⟨by rw [HNL.out]; exact he, HLX.out w' (hx.out.next hb)⟩
     clear HB HEB HRN e0 n2 hnl
     go_wp2_with fail
     clear n0 e1 n1
     obtain ⟨d0, d1, d2, d3⟩ := HLX.out W.drew HX.out.drew
     have b2 : ¬ 9223372036854775807 < Q.size + 3 := by omega
     clear HX HLX
     unfold LXo at HIT HLK
     go_region_held3 (fun W => W.cell? ⟨eb, 1, none⟩ = some (.pointer (some ⟨xn, 0, none⟩)) ∧ W.cell? ⟨xn, 1, none⟩ = some (.slice da d.data.length dc) ∧ W.cell? ⟨xn, 2, none⟩ = some (.int .i64 d.tick) ∧ Hid (LX B R w eb P xn W)) (first | exact ⟨d0, d1, d2, d3⟩ | exact ⟨by assumption, by assumption, by assumption, by assumption⟩)
      (first
       | (go_at_call_of 44 (Value.int IntKind.i64 nl); refine (HIT.out _ _ hlk0 hlk1 ?_).mono ?_; assumption; rintro e w' ⟨⟨SL, rfl, hsL, hSL⟩, c0, c1, c2, hx⟩; have b17 : ¬ 9223372036854775807 < Q.size + 3 + SN.size + 1 + SL.size := (by omega); have b18 : ¬ 9223372036854775807 < S.size + (Q.size + 3 + SN.size + 1 + SL.size) := (by omega))
       | (go_at_call 44; refine (HIT.out _ _ hdl0 hdl1 ?_).mono ?_; assumption; rintro e w' ⟨⟨SN, rfl, hsN, hSN⟩, c0, c1, c2, hx⟩; have b10 : ¬ 9223372036854775807 < Q.size + 3 + SN.size := (by omega); have b11 : ¬ 9223372036854775807 < Q.size + 3 + SN.size + 1 := (by omega))
       | (go_at_call 45; refine (HLK.out _ ?_).mono ?_; assumption; rintro e w' ⟨rfl, c0, c1, c2, hx⟩))
     all_goals
      have hx : Hid (LX B R w eb P xn w') := by assumption
      have HX := hid hx.out
      clear hx
      go_wp2_with fail
      refine (HF.out _ HX.out.below).mono ?_
      rintro e w3 ⟨D, rfl, hD, hDz, hb3⟩
      have HL : Hid (bl (S ++ (Q ++ (⟨#[32, 102, 32]⟩ : ByteArray) ++ SN ++ (⟨#[32]⟩ : ByteArray) ++ SL) ++ ((⟨#[32]⟩ : ByteArray) ++ D ++ (⟨#[10]⟩ : ByteArray))) = R.txtTo (k + 1)) := by
       show _ = _
       rw [HA.out]
       exact file_rline HD.out HDIR.out hS.out hQ.out hSN.out (by rw [← HNL.out]; exact hSL.out) hD
      have HB3 : Hid (Below w.heap.size w w3) := zaf HX.out.below hb3
      clear hD hb3 HF hSN hSL HX HLK HIT
      go_wp2_with fail
      go_roundw
      case rel => exact ⟨k + 1, by omega, by go_num, ⟨_, rfl, HL.out⟩, HB3.out⟩
      case measure => simp [intOf]; omega
  ·obtain rfl : k = R.L.length := by omega
   have HF : Hid (S = (⟨R.txt.toArray⟩ : ByteArray)) := by
    show _ = _
    refine bl_inj ?_
    rw [hS.out, R.txtTo_all]
    rfl
   go_wp2_with fail
   go_ret
   exact ⟨by rw [← HF.out]; rfl, hb.out⟩
end Go.Proofs.YteeeaeiafdgpkaaGreatDoor
