/-
  pidginlaw16.awake: true.
-/
import Derived.Test.YtjhojohjegkinaaGreatDoorStatF
import Derived.Test.YtjhojohjegkinaaGreatDoorTextA
namespace Go.Proofs.YtjhojohjegkinaaGreatDoor
open Go Go.RowKit

def aName : ByteArray := ⟨#[97]⟩
theorem clean_a : clean aName = some [aName] := by kernel_rfl

def rootNd (mb : Nat) : Nd := { dir := true, bv := .slice none 0 0, data := [], names := [], mb := mb, links := 0, tick := 0 }
def awTr (tb root mb k : Nat) (bv : Value) : Tr := (newTr tb root mb).newFile root (rootNd mb) aName k bv [120, 121]

theorem dec_1 : dec 1 = [49] := by unfold dec; rw [show (1 : Int).toNat = 1 from rfl, Lib.decDigits_one (by decide)]; rfl
theorem dec_2 : dec 2 = [50] := by unfold dec; rw [show (2 : Int).toNat = 2 from rfl, Lib.decDigits_one (by decide)]; rfl

theorem aw_root (tb mb : Nat) {root k : Nat} (bv : Value) (h : root ≠ k) : (awTr tb root mb k bv).nd root = some { dir := true, bv := .slice none 0 0, data := [], names := [(aName, k)], mb := mb, links := 0, tick := 1 } := newFile_i _ _ _ _ _ h
theorem aw_file (tb mb root k : Nat) (bv : Value) : (awTr tb root mb k bv).nd k = some { dir := false, bv := bv, data := [120, 121], names := [], mb := 0, links := 1, tick := 1 } := newFile_k _ _ _ _ _ _ _

theorem aw_text (tb mb : Nat) {root k : Nat} (bv : Value) (h : root ≠ k) : (awTr tb root mb k bv).text 2 [] (awTr tb root mb k bv).root = [47, 32, 100, 32, 49, 10, 47, 97, 32, 102, 32, 50, 32, 49, 32, 49, 10] := by
  rw [show (awTr tb root mb k bv).root = root from rfl, Tr.text_succ (aw_root tb mb bv h)]
  have hs : sortedNames [(aName, k)] = [[97]] := by
    unfold sortedNames
    rw [List.map_cons, List.map_nil, List.mergeSort_singleton]
    rfl
  have hb : ((⟨([97] : List UInt8).toArray⟩ : ByteArray) == aName) = true := (MapKept.bytes_beq _ _).2 rfl
  have hl : (look [(aName, k)] ⟨([97] : List UInt8).toArray⟩).getD 0 = k := by
    simp [look, hb]
  show lineOf [] _ ++ (sortedNames [(aName, k)]).flatMap _ = _
  rw [hs, List.flatMap_cons, List.flatMap_nil, List.append_nil]
  show lineOf [] _ ++ (awTr tb root mb k bv).text 1 ([] ++ [47] ++ [97]) ((look [(aName, k)] ⟨([97] : List UInt8).toArray⟩).getD 0) = _
  rw [hl, Tr.text_succ (aw_file tb mb root k bv)]
  have hs0 : sortedNames [] = [] := by
    unfold sortedNames
    rw [List.map_nil, List.mergeSort_nil]
  show lineOf [] _ ++ (lineOf _ _ ++ (sortedNames []).flatMap _) = _
  rw [hs0, List.flatMap_nil, List.append_nil]
  unfold lineOf
  show ([] ++ [47] ++ [32, 100, 32] ++ (dec 1 ++ [10])) ++ ([47, 97] ++ [] ++ ([32, 102, 32] ++ dec 2 ++ [32] ++ dec 1 ++ [32]) ++ (dec 1 ++ [10])) = _
  rw [dec_1, dec_2]
  rfl

theorem aw_ok (tb mb : Nat) {root k : Nat} (bv : Value) (h : root ≠ k) : TxOk (awTr tb root mb k bv) := by
  intro n d hn
  rcases newFile_cases h hn with ⟨_, rfl⟩ | ⟨_, rfl⟩ | ⟨h1, _, h3⟩
  · exact ⟨by show (0 : Int) ≤ 1; decide, by show (1 : Int) ≤ _; decide, by show (0 : Int) ≤ 1; decide, by show (1 : Int) ≤ _; decide, by show 2 ≤ _; decide, by show 0 ≤ _; decide, fun p hp => by cases hp⟩
  · refine ⟨by show (0 : Int) ≤ 0; decide, by show (0 : Int) ≤ _; decide, by show (0 : Int) ≤ 1; decide, by show (1 : Int) ≤ _; decide, by show 0 ≤ _; decide, by show 1 ≤ _; decide, fun p hp => ?_⟩
    rcases List.mem_singleton.1 hp with rfl
    show 1 ≤ _
    decide
  · exact absurd (newTr_nd h3).1 h1

theorem aw_deep (tb mb : Nat) {root k : Nat} (bv : Value) (h : root ≠ k) : (awTr tb root mb k bv).deep 2 (awTr tb root mb k bv).root :=
  ⟨_, aw_root tb mb bv h, fun p hp => by
    rcases List.mem_singleton.1 hp with rfl
    exact ⟨_, aw_file tb mb root k bv, fun p hp => by cases hp⟩⟩

set_option maxRecDepth 100000 in
set_option maxHeartbeats 1000000 in
theorem awake16_any {E : Nat → Addr} {B : Nat} (w : World) (hE : Ctx E B w) :
    Calls Tryz.prog 17 #[] w fun e w' => AwPost w e w' := by
  have HE := Lib.hid hE.raise
  have kc := fun (w : World) (C : Array Value) (n c : Nat) => Lib.run_convert_bytes_const (P := Tryz.prog) w 44 5 C n c Tryz.underlying44 Tryz.underlying5
  clear hE
  go_enter Tryz.func17, Tryz.ntmps17
  go_wp2_with fail
  refine (tree_new w).mono ?_
  intro e w1 hp
  obtain ⟨rfl, hrep, hb1, hs1⟩ := hp
  have HB1 := Lib.hid hb1
  have HR1 : Hid (Rep w.heap.size w1 (newTr (w.heap.size + 2) (w.heap.size + 1) w.heap.size)) := hrep _ (Nat.le_refl _)
  have HWR : Hid (Calls Tryz.prog 18 #[.pointer (some ⟨w.heap.size + 2, 0, none⟩), .string aName, .slice (some ⟨w1.heap.size, 0, none⟩) 2 2, .bool false] (w1.alloc (.cells #[.int .u8 120, .int .u8 121] 5 (2, 3))) fun e w' =>
      WNew w.heap.size (w1.alloc (.cells #[.int .u8 120, .int .u8 121] 5 (2, 3))) (newTr (w.heap.size + 2) (w.heap.size + 1) w.heap.size) (w.heap.size + 1) (rootNd w.heap.size) aName [120, 121] e w') := by
    refine write_new (T := newTr (w.heap.size + 2) (w.heap.size + 1) w.heap.size) aName _ [120, 121] false _ (HE.out.below (hb1.alloc hb1.size _)) (HR1.out.below (below_alloc _ _)) (by decide) ⟨some (w.heap.size + 1), aName, none⟩ (find_one _ _ _ clean_a) rfl (by show (1 : Int) < 200; decide) (by show (0 : Int) ≤ 1; decide) (Int.le_refl 0) (by show (0 : Int) ≤ _; decide) ?_ ?_ (by decide) (w.heap.size + 1) (rootNd w.heap.size) rfl (newTr_root _ _ _) rfl rfl
    · refine .inr ⟨⟨w1.heap.size, 0, none⟩, 2, rfl, by decide, fun j hj => ?_⟩
      have hh := heap_alloc_new w1 (.cells #[.int .u8 120, .int .u8 121] 5 (2, 3))
      match j, hj with
      | 0, _ => exact cell_of hh rfl
      | 1, _ => exact cell_of hh rfl
    · intro _ x hx hf
      simp only [Value.ownBlock, Option.some.injEq] at hx
      subst hx
      have := HR1.out.lt hf
      omega
  clear hrep hb1 hs1
  go_wp2_with fail
  refine HWR.out.mono ?_
  rintro e w2 ⟨k, bv, rfl, hk, hrep2, hk2, _⟩
  have hrk : w.heap.size + 1 ≠ k := fun he => by
    have h1 := HR1.out.node_lt (n := w.heap.size + 1) (newTr_root _ _ _)
    have h2 : (w1.alloc (.cells #[.int .u8 120, .int .u8 121] 5 (2, 3))).heap.size = w1.heap.size + 1 := by simp
    omega
  have HB2 : Hid (Below w.heap.size w w2) := (HB1.out.alloc HB1.out.size _).trans (hk2.below (B := w.heap.size) (fun x hx => HR1.out.low x hx) (Nat.le_trans HB1.out.size (below_alloc _ _).size))
  have HT : Hid (Calls Tryz.prog 14 #[.pointer (some ⟨w.heap.size + 2, 0, none⟩)] w2 fun e w' => TTextPost [47, 32, 100, 32, 49, 10, 47, 97, 32, 102, 32, 50, 32, 49, 32, 49, 10] w2 e w') := by
    have h := tree_text (T := awTr (w.heap.size + 2) (w.heap.size + 1) w.heap.size k bv) w2 hrep2 (aw_ok _ _ bv hrk) 2 (aw_deep _ _ bv hrk) (by rw [aw_text _ _ bv hrk]; decide)
    rw [aw_text _ _ bv hrk] at h
    exact h
  clear hk hrep2 hk2 hrk HWR HR1
  go_wp2_with fail
  refine HT.out.mono ?_
  rintro e w3 ⟨rfl, hb3⟩
  have HB3 := Lib.hid (HB2.out.trans (hb3.mono HB2.out.size))
  clear hb3 HT
  go_wp2_with fail
  go_ret
  exact ⟨rfl, HB3.out⟩
end Go.Proofs.YtjhojohjegkinaaGreatDoor
