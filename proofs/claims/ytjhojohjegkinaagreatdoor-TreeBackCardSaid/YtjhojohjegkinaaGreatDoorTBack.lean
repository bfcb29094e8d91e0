/-
  TreeBack's walk.
-/
import Derived.Test.YtjhojohjegkinaaGreatDoorBothA
import Derived.Test.YtjhojohjegkinaaGreatDoorStatF
import Derived.Test.YtjhojohjegkinaaGreatDoorStrA
import Derived.Test.YtjhojohjegkinaaGreatDoorAwake16
import Derived.Lib.SlBytesConst
namespace Go.Proofs.YtjhojohjegkinaaGreatDoor
open Go Go.RowKit

def newB : List UInt8 := [110, 101, 119]

/-- A file that is there has a name. -/
theorem Both.links_pos {B n : Nat} {w : World} {T : Tr} {R : RT} {f : Nat → Nat} {s : ByteArray} {k : Nat} {d : Nd} (h : Both B w T R f n) (hF : FileAt T s k d) : 1 ≤ d.links := by
  obtain ⟨l, hc, ha⟩ := hF.path
  have he := h.sim.leads l (h.ti.tw.pts ha)
  rw [ha] at he
  have h1 : 0 < linksIn R.L (f k) := linksIn_pos.2 ⟨_, entAt_mem he⟩
  have := h.sim.links k d hF.nd hF.file
  omega

theorem PWrote.clock {T T1 : Tr} {s : ByteArray} {b : List UInt8} {add : Bool} (h : PWrote T T1 s b add) : T1.clock = T.clock + 1 := by
  rcases h with ⟨⟨_, _, _, _, _, _, _, _, _, _, _, _, h, _⟩, _⟩ | ⟨_, _, _, _, _, _, _, _, h⟩
  · exact h.clock
  · exact h.clock

set_option maxRecDepth 100000 in
set_option maxHeartbeats 4000000 in
theorem treeBack_any {E : Nat → Addr} {B0 : Nat} (w : World) (hE : Ctx E B0 w) (va : Option Addr) (vc : Nat) (l : List OpA) (hl : OSrc w (.slice va l.length vc) l) (hll : l.length ≤ 9223372036854775807) (hok : ∀ x ∈ l, OpOk x)
    (path : ByteArray) (hpz : path.size ≤ 9223372036854775807) (other : ByteArray) (hoz : other.size ≤ 9223372036854775807) (da : Option Addr) (dc : Nat) (data : List UInt8) (hd : Src w (.slice da data.length dc) data) (_hdl : data.length ≤ 9223372036854775807) :
    Calls Tryz.prog 5 #[.slice va l.length vc, .string path, .string other, .slice da data.length dc] w fun e w' => AwPost w e w' := by
  have HE := Lib.hid hE.raise
  have HM := Lib.hid (made_any w hE _ l hl hok hll)
  have HD := Lib.hid hd
  have HPZ := Lib.hid hpz
  have HOZ := Lib.hid hoz
  clear hE hl hok hd hpz hoz hll
  go_enter Tryz.func5, Tryz.ntmps5
  go_wp2_with fail
  refine HM.out.mono ?_
  rintro e w1 ⟨T, R, f, rfl, hb, hbl⟩
  have HPT : Hid (PT w.heap.size w w1 T 100000) := PT.of_both hb (by omega) hbl
  have HTX : Hid (TxT T) := hb.txt (by omega)
  have HLK : Hid (∀ s k d, FileAt T s k d → 1 ≤ d.links) := fun s k d h => hb.links_pos h
  have hc0 := HPT.out.tm.clk0
  have hc1 := HPT.out.tm.clk1
  clear hb hbl HM
  go_wp2_with fail
  refine (HTX.out.text HPT.out.rep).mono ?_
  rintro e w2 ⟨rfl, hb2⟩
  have HPT2 := Lib.hid (HPT.out.next hb2)
  clear hb2 HPT
  go_wp2_with fail
  refine (HPT2.out.now).mono ?_
  rintro e w3 ⟨rfl, rfl⟩
  go_wp2_with fail
  refine (write_any path (.slice da data.length dc) data false w3 (HE.out.below HPT2.out.below) HPT2.out.rep HPT2.out.ti (HPT2.out.tm.num (by decide)) HPZ.out (src_up HD.out HPT2.out.below) (fun h x hx hf => by have := src_low4 HD.out h x hx; have := HPT2.out.rep.low x hf; omega)).mono ?_
  intro e w4 hp
  rcases HPT2.out.ans hp (fun T' h => ⟨h.ti HPT2.out.ti, h.tm HPT2.out.tm⟩) with ⟨hc, ⟨a, rfl⟩, h4⟩ | ⟨hc, rfl, T1, htb, hP, h4⟩
  · have HPT4 := Lib.hid h4
    clear hp hc h4
    go_wp2_with fail
    refine (HTX.out.text HPT4.out.rep).mono ?_
    rintro e w5 ⟨rfl, hb5⟩
    have HPT5 := Lib.hid (HPT4.out.next hb5)
    clear hb5 HPT4
    go_wp2_with fail
    refine (HPT5.out.now).mono ?_
    rintro e w6 ⟨rfl, rfl⟩
    go_wp2_with fail
    refine (awake16_any w6 (HE.out.below HPT5.out.below)).mono ?_
    rintro e w7 ⟨rfl, hb7⟩
    have HB7 := Lib.hid (below_trans HPT5.out.below hb7)
    clear hb7
    go_wp2_with fail
    go_ret
    exact ⟨rfl, HB7.out⟩
  · obtain ⟨k, d, hF, hcase⟩ := hP.fileAt HPT2.out.ti
    have HF := Lib.hid hF
    have hdata : d.data = data := by
      rcases hcase with ⟨_, h, _⟩ | ⟨d0, _, _, h⟩
      · exact h
      · rw [h]; simp [wdata]
    have HLN : Hid (1 ≤ d.links) := by
      show _ ≤ _
      rcases hcase with ⟨_, _, h⟩ | ⟨d0, h1, h2, _⟩
      · omega
      · have := HLK.out _ _ _ h1; omega
    have HPT4 := Lib.hid h4
    have hck := hP.clock
    have HNOW : Hid (∀ W, PT w.heap.size w W T1 100001 → Calls Tryz.prog 15 #[.pointer (some ⟨T.tb, 0, none⟩)] W fun e w' => e = .returned (.int .i64 (T.clock + 1)) ∧ w' = W) := fun W h => by
      have := h.now
      rw [hck, htb] at this
      exact this
    have HRD : Hid (Calls Tryz.prog 23 #[.pointer (some ⟨T.tb, 0, none⟩), .string path] w4 fun e w' => ReadOk w4 data e w') := by
      have := HPT4.out.read (HE.out.below HPT4.out.below) HPZ.out HF.out
      rw [htb, hdata] at this
      exact this
    have HTB := Lib.hid htb
    have HDT := Lib.hid hdata
    clear hp hc h4 hP hF hcase hck htb hdata HLK HTX
    go_wp2_with fail
    refine HRD.out.mono ?_
    rintro e w5 ⟨v5, rfl, hown5, hb5⟩
    obtain ⟨va5, vc5, rfl⟩ := owns_form hown5
    have HS5 := Lib.hid (Src.of_owns hown5)
    have HPT5 := Lib.hid (HPT4.out.next hb5)
    clear hown5 hb5 HPT4 HRD
    go_wp2_with fail
    refine (bytes_true va5 vc5 da dc w5 HS5.out (src_up HD.out HPT5.out.below)).mono ?_
    rintro e w6 ⟨rfl, rfl⟩
    go_wp2_with fail
    refine (HNOW.out w6 HPT5.out).mono ?_
    rintro e w7 ⟨rfl, rfl⟩
    have HLA : Hid (Calls Tryz.prog 25 #[.pointer (some ⟨T.tb, 0, none⟩), .string path, .string other] w7 fun e w' => TAns E w.heap.size w7 T1 (T1.cLink path other) (fun T' => PLinked T1 T' path other) e w') := by
      have h := link_any path other w7 (HE.out.below HPT5.out.below) HPT5.out.rep (HPT5.out.tm.num (by decide)) HPZ.out HOZ.out
      rw [HTB.out] at h
      exact h
    clear HNOW HS5
    go_wp2_with fail
    refine HLA.out.mono ?_
    intro e w8 hp
    rcases HPT5.out.ans hp (fun T' h => ⟨h.ti HPT5.out.ti, h.tm HPT5.out.tm⟩) with ⟨_, ⟨a, rfl⟩, h8⟩ | ⟨_, rfl, T2, htb2, hP2, h8⟩
    · have HPT8 := Lib.hid h8
      clear hp h8 HLA HPT5
      go_wp2_with fail
      refine (awake16_any w8 (HE.out.below HPT8.out.below)).mono ?_
      rintro e w9 ⟨rfl, hb9⟩
      have HB9 := Lib.hid (below_trans HPT8.out.below hb9)
      clear hb9
      go_wp2_with fail
      go_ret
      exact ⟨rfl, HB9.out⟩
    · obtain ⟨d2, hf1, hf2, hd2, hl2⟩ := hP2.fileAt HPT5.out.ti HF.out
      have HPT8 := Lib.hid h8
      have HF1 := Lib.hid hf1
      have HF2 := Lib.hid hf2
      have HD2 : Hid (d2.data = data) := hd2.trans HDT.out
      have HTB2 : Hid (T2.tb = T.tb) := htb2.trans HTB.out
      have hln : 2 ≤ d2.links := by have := HLN.out; omega
      clear hp h8 hP2 htb2 hf1 hf2 hd2 hl2 HLA HPT5 HF HTB HDT
      have HRD : Hid (Calls Tryz.prog 23 #[.pointer (some ⟨T.tb, 0, none⟩), .string other] w8 fun e w' => ReadOk w8 data e w') := by
        have h := HPT8.out.read (HE.out.below HPT8.out.below) HOZ.out HF2.out
        rw [HTB2.out, HD2.out] at h
        exact h
      go_wp2_with fail
      refine HRD.out.mono ?_
      rintro e w9 ⟨v9, rfl, hown9, hb9⟩
      obtain ⟨va9, vc9, rfl⟩ := owns_form hown9
      have HS9 := Lib.hid (Src.of_owns hown9)
      have HPT9 := Lib.hid (HPT8.out.next hb9)
      clear hown9 hb9 HPT8 HRD
      have HST : Hid (Calls Tryz.prog 16 #[.pointer (some ⟨T.tb, 0, none⟩), .string path] w9 fun e w' => StatPost w9 (statV 1 d2.data.length d2.links d2.tick) e w') := by
        obtain ⟨sp, hs1, hs2⟩ := HF1.out.find
        have h := stat_file path w9 (HE.out.below HPT9.out.below) HPT9.out.rep HPZ.out sp hs1 k d2 hs2 HF1.out.nd HF1.out.file (HPT9.out.ti.data k d2 HF1.out.nd)
        rw [HTB2.out] at h
        exact h
      go_wp2_with fail
      refine HST.out.mono ?_
      rintro e w10 ⟨rfl, hb10⟩
      unfold statV
      generalize (d2.data.length : Int) = sz at *
      generalize d2.tick = tk at *
      obtain ⟨w11, hw11⟩ : ∃ w11, w11 = w10.alloc (.cells #[.int .i64 1, .int .i64 sz, .int .i64 d2.links, .int .i64 tk] 30) := ⟨_, rfl⟩
      have HW11 := Lib.hid hw11
      have hb11 : Below w9.heap.size w9 w11 := by rw [hw11]; exact below_trans hb10 (below_alloc w10 _)
      have HC11 : Hid (w11.heap[w10.heap.size]? = some (.cells #[.int .i64 1, .int .i64 sz, .int .i64 d2.links, .int .i64 tk] 30 (0, 0))) := by rw [hw11]; exact heap_alloc_new w10 _
      have HPT11 := Lib.hid (HPT9.out.next hb11)
      have HS11 := Lib.hid (src_up HS9.out hb11)
      have HSD := Lib.hid (src_up HD.out HPT11.out.below)
      clear hw11 hb11 hb10 HPT9 HS9 HST
      go_upto_region 12 with fail
      rw [← HW11.out]
      clear HW11
      generalize w10.heap.size = sb at *
      have c2 := cell_of (o := 2) HC11.out rfl
      go_wp2_with fail
      refine (bytes_true va9 vc9 da dc w11 HS11.out HSD.out).mono ?_
      rintro e w12 ⟨rfl, rfl⟩
      have kc := fun (w : World) (C : Array Value) (n c : Nat) => Lib.run_convert_bytes_const (P := Tryz.prog) w 44 5 C n c Tryz.underlying44 Tryz.underlying5
      have HPT12 := Lib.hid (HPT11.out.next (below_alloc w12 (.cells #[.int .u8 110, .int .u8 101, .int .u8 119] 5 (3, 4))))
      have HWR : Hid (Calls Tryz.prog 18 #[.pointer (some ⟨T.tb, 0, none⟩), .string other, .slice (some ⟨w12.heap.size, 0, none⟩) 3 3, .bool false] (w12.alloc (.cells #[.int .u8 110, .int .u8 101, .int .u8 119] 5 (3, 4))) fun e w' =>
          TAns E w.heap.size (w12.alloc (.cells #[.int .u8 110, .int .u8 101, .int .u8 119] 5 (3, 4))) T2 0 (fun T' => PWrote T2 T' other newB false) e w') := by
        have h := write_any other (.slice (some ⟨w12.heap.size, 0, none⟩) 3 3) newB false (w12.alloc (.cells #[.int .u8 110, .int .u8 101, .int .u8 119] 5 (3, 4))) (HE.out.below HPT12.out.below) HPT12.out.rep HPT12.out.ti (HPT12.out.tm.num (by decide)) HOZ.out
          (.inr ⟨⟨w12.heap.size, 0, none⟩, 3, rfl, by decide, fun j hj => by
            have hh := heap_alloc_new w12 (.cells #[.int .u8 110, .int .u8 101, .int .u8 119] 5 (3, 4))
            match j, hj with
            | 0, _ => exact cell_of hh rfl
            | 1, _ => exact cell_of hh rfl
            | 2, _ => exact cell_of hh rfl⟩)
          (fun _ x hx hf => by
            simp only [Value.ownBlock, Option.some.injEq] at hx
            subst hx
            have := HPT11.out.rep.lt hf
            omega)
        rw [HTB2.out, HF2.out.cWrite (by simp [wdata, newB])] at h
        exact h
      go_wp2_with fail
      refine HWR.out.mono ?_
      intro e w13 hp
      rcases HPT12.out.ans hp (fun T' h => ⟨h.ti HPT12.out.ti, h.tm HPT12.out.tm⟩) with ⟨h0, _⟩ | ⟨_, rfl, T3, htb3, hP3, h13⟩
      · exact absurd rfl h0
      · obtain ⟨d3, hf3, hd3, _⟩ := hP3.fileAt_old HF2.out HF1.out
        have HPT13 := Lib.hid h13
        have HRD3 : Hid (Calls Tryz.prog 23 #[.pointer (some ⟨T.tb, 0, none⟩), .string path] w13 fun e w' => ReadOk w13 newB e w') := by
          have h := HPT13.out.read (HE.out.below HPT13.out.below) HPZ.out hf3
          have hw : wdata d2.data false newB = newB := by simp [wdata]
          rw [htb3, HTB2.out, hd3, hw] at h
          exact h
        clear hp h13 hP3 hf3 hd3 htb3 HWR HPT12 kc c2 HPT11 HS11 HSD HC11
        go_wp2_with fail
        refine HRD3.out.mono ?_
        rintro e w14 ⟨v14, rfl, hown, hb14⟩
        obtain ⟨va14, vc14, rfl⟩ := owns_form hown
        have q1 := run_str_src (Src.of_owns hown)
        rw [show strOf newB = ⟨#[110, 101, 119]⟩ from rfl] at q1
        have HPT14 := Lib.hid (HPT13.out.next hb14)
        clear hown hb14 HRD3
        go_wp2_with fail
        refine (awake16_any w14 (HE.out.below HPT14.out.below)).mono ?_
        rintro e w15 ⟨rfl, hb15⟩
        have HB15 := Lib.hid (below_trans HPT14.out.below hb15)
        clear hb15
        go_wp2_with fail
        go_ret
        exact ⟨rfl, HB15.out⟩
end Go.Proofs.YtjhojohjegkinaaGreatDoor
