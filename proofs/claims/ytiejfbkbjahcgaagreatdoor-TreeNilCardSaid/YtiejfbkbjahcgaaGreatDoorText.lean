/-
  (*Tree).Text: the tree, written.
-/
import Derived.Test.YtiejfbkbjahcgaaGreatDoorSorted
import Derived.Test.YtiejfbkbjahcgaaGreatDoorBld
import Derived.Test.YtiejfbkbjahcgaaGreatDoorDec
import Derived.Deep.DeepCutAuto
namespace Go.Proofs.YtiejfbkbjahcgaaGreatDoor
open Go Go.RowKit

def dec (n : Int) : List UInt8 := Lib.decDigits n.toNat

/-- A node's line. -/
def lineOf (path : List UInt8) (d : Nd) : List UInt8 :=
  path ++ (if path = [] then [47] else []) ++ (if d.dir then [32, 100, 32] else [32, 102, 32] ++ dec d.data.length ++ [32] ++ dec d.links ++ [32]) ++ (dec d.tick ++ [10])

/-- The lines of a node and of what is below it. -/
def Tr.text (T : Tr) : Nat → List UInt8 → Nat → List UInt8
  | 0, _, _ => []
  | f + 1, path, n => match T.nd n with
    | none => []
    | some d => lineOf path d ++ (sortedNames d.names).flatMap fun s => T.text f (path ++ [47] ++ s) ((look d.names ⟨s.toArray⟩).getD 0)

/-- No chain of directories from a node is longer. -/
def Tr.deep (T : Tr) : Nat → Nat → Prop
  | 0, _ => False
  | f + 1, n => ∃ d, T.nd n = some d ∧ ∀ p ∈ d.names, T.deep f p.2

/-- The numbers of a tree are within what a text takes. -/
def TxOk (T : Tr) : Prop :=
  ∀ n d, T.nd n = some d → 0 ≤ d.links ∧ d.links ≤ 4611686018427387904 ∧ 0 ≤ d.tick ∧ d.tick ≤ 4611686018427387904 ∧ d.data.length ≤ 140737488355328 ∧ d.names.length ≤ 1000000000 ∧ ∀ p ∈ d.names, p.1.size ≤ 140737488355328

theorem Tr.text_succ {T : Tr} {f n : Nat} {d : Nd} (h : T.nd n = some d) (path : List UInt8) :
    T.text (f + 1) path n = lineOf path d ++ (sortedNames d.names).flatMap fun s => T.text f (path ++ [47] ++ s) ((look d.names ⟨s.toArray⟩).getD 0) := by
  rw [Tr.text, h]

def funcV (b wb : Nat) : Value := .func (.func 67) #[] #[.pointer (some ⟨b, 0, none⟩), .pointer (some ⟨wb, 0, none⟩)]

/-- The state in which a text is being written. -/
structure TS (B0 B b wb : Nat) (T : Tr) (l : List UInt8) (w : World) : Prop where
  rep : Rep B0 w T
  low : ∀ x, T.foot x → x < B
  size : B ≤ w.heap.size
  bld : Bld B b l w
  wlo : B ≤ wb
  ne : wb ≠ b
  fn : w.heap[wb]? = some (.cells #[funcV b wb] 127 (0, 0))

theorem kept_low {B : Nat} {w w' : World} (h : Below B w w') : Kept (fun x => B ≤ x) w w' := ⟨h.os, h.tape, h.output, h.size, fun k _ hk => h.block k (by omega)⟩

theorem TS.next {B0 B b wb : Nat} {T : Tr} {l l' : List UInt8} {w w' : World} (h : TS B0 B b wb T l w) (hb : Bld B b l' w') (k : Below B w w') (o : Lib.OthersKept 5 (some b) w w') : TS B0 B b wb T l' w' :=
  ⟨h.rep.kept (kept_low k) (fun x hx hf => by have h1 := h.low x hx; omega), h.low, Nat.le_trans h.size k.size, hb, h.wlo, h.ne, o wb _ h.fn (fun he => h.ne (Option.some.inj he)) (fun c fz he => by
    simp only [Obj.cells.injEq] at he
    exact absurd he.2.1 (by decide))⟩
theorem TS.below {B0 B b wb : Nat} {T : Tr} {l : List UInt8} {w w' : World} (h : TS B0 B b wb T l w) (k : Below w.heap.size w w') : TS B0 B b wb T l w' :=
  ⟨h.rep.below k, h.low, Nat.le_trans h.size k.size, bld_others h.bld k, h.wlo, h.ne, below_heap k (lt_of_heap h.fn) h.fn⟩

/-- What writing a node leaves. -/
def TxPost (B b : Nat) (l : List UInt8) (w : World) (e : Ending) (w' : World) : Prop :=
  e = .returned (.tuple #[]) ∧ Bld B b l w' ∧ Below B w w' ∧ Lib.OthersKept 5 (some b) w w'

theorem others_below {w w' : World} {e : TypeId} {b : Option Nat} (k : Below w.heap.size w w') : Lib.OthersKept e b w w' := fun _ _ hx _ _ => below_heap k (lt_of_heap hx) hx

theorem look_some {names : List (ByteArray × Nat)} {s : ByteArray} {k : Nat} (h : (s, k) ∈ names) : ∃ k', look names s = some k' := by
  cases hl : look names s with
  | some k' => exact ⟨k', rfl⟩
  | none => exact absurd rfl (look_none_mem hl _ h)

theorem mem_sorted {names : List (ByteArray × Nat)} {s : List UInt8} (h : s ∈ sortedNames names) : ∃ k, ((⟨s.toArray⟩ : ByteArray), k) ∈ names := by
  unfold sortedNames at h
  rw [List.mem_mergeSort] at h
  obtain ⟨p, hp, rfl⟩ := List.mem_map.1 h
  exact ⟨p.2, hp⟩

/-- The names as they lie. -/
def NamesAt (w : World) (b : Nat) (a : Option Addr) (ss : List (List UInt8)) : Prop :=
  ∀ j (h : j < ss.length), ∃ g cur, a = some ⟨g, 0, none⟩ ∧ g ≠ b ∧ w.heap[g]? = some (.cells cur 9 (0, 0)) ∧ cur[j]? = some (.string ⟨ss[j].toArray⟩)
theorem NamesAt.next {w w' : World} {b : Nat} {a : Option Addr} {ss : List (List UInt8)} (h : NamesAt w b a ss) (o : Lib.OthersKept 5 (some b) w w') : NamesAt w' b a ss := fun j hj => by
  obtain ⟨g, cur, h1, h2, h3, h4⟩ := h j hj
  exact ⟨g, cur, h1, h2, o g _ h3 (fun he => h2 (Option.some.inj he)) (fun c fz he => by
    simp only [Obj.cells.injEq] at he
    exact absurd he.2.1 (by decide)), h4⟩

theorem wsOk {B0 B b wb : Nat} {T : Tr} {l : List UInt8} {w : World} (h : TS B0 B b wb T l w) (s : ByteArray) (hl : l.length + s.size ≤ 140737488355328) :
    Calls Tryz.prog 68 #[.pointer (some ⟨b, 0, none⟩), .string s] w fun e w' => BWPost B b (l ++ s.data.toList) s.size w e w' := writeString_ok s w h.bld hl h.size

theorem size_data (s : ByteArray) : s.size = s.data.toList.length := by rw [Array.length_toList]; rfl

theorem file_room {l2 : List UInt8} {a c : List UInt8} {SN SL : ByteArray} (h : l2.length + 5 + a.length + c.length ≤ 140737488355328) (h1 : SN.data.toList = a) (h2 : SL.data.toList = c) :
    l2.length + ((⟨#[32, 102, 32]⟩ : ByteArray) ++ SN ++ ⟨#[32]⟩ ++ SL ++ ⟨#[32]⟩).size ≤ 140737488355328 := by
  have e1 := size_data SN
  have e2 := size_data SL
  rw [h1] at e1
  rw [h2] at e2
  have c3 : (⟨#[32, 102, 32]⟩ : ByteArray).size = 3 := rfl
  have c1 : (⟨#[32]⟩ : ByteArray).size = 1 := rfl
  simp only [ByteArray.size_append]
  omega
theorem file_line {d : Nd} {l l2 path : List UInt8} {SN SL : ByteArray} (hd : d.dir = false) (h : l2 = l ++ (path ++ (if path = [] then [47] else []))) (h1 : SN.data.toList = dec d.data.length) (h2 : SL.data.toList = dec d.links) :
    l2 ++ ((⟨#[32, 102, 32]⟩ : ByteArray) ++ SN ++ ⟨#[32]⟩ ++ SL ++ ⟨#[32]⟩).data.toList = l ++ (path ++ (if path = [] then [47] else []) ++ (if d.dir then [32, 100, 32] else [32, 102, 32] ++ dec d.data.length ++ [32] ++ dec d.links ++ [32])) := by
  rw [h, hd]
  simp [ByteArray.data_append, h1, h2]

theorem dir_line {d : Nd} {l l2 path : List UInt8} (hd : d.dir = true) (h : l2 = l ++ (path ++ (if path = [] then [47] else []))) :
    l2 ++ (⟨#[32, 100, 32]⟩ : ByteArray).data.toList = l ++ (path ++ (if path = [] then [47] else []) ++ (if d.dir then [32, 100, 32] else [32, 102, 32] ++ dec d.data.length ++ [32] ++ dec d.links ++ [32])) := by
  rw [h, hd]
  simp
theorem tick_room {l3 a : List UInt8} {ST : ByteArray} {r : Nat} (h : l3.length + a.length + 1 + r ≤ 140737488355328) (h1 : ST.data.toList = a) : l3.length + (ST ++ (⟨#[10]⟩ : ByteArray)).size ≤ 140737488355328 := by
  have e1 := size_data ST
  rw [h1] at e1
  have c1 : (⟨#[10]⟩ : ByteArray).size = 1 := rfl
  simp only [ByteArray.size_append]
  omega
theorem tick_left {l3 a : List UInt8} {ST : ByteArray} {r : Nat} (h : l3.length + a.length + 1 + r ≤ 140737488355328) (h1 : ST.data.toList = a) : (l3 ++ (ST ++ (⟨#[10]⟩ : ByteArray)).data.toList).length + r ≤ 140737488355328 := by
  rw [ByteArray.data_append, Array.toList_append, h1]
  simp only [List.length_append, List.length_cons, List.length_nil]
  omega
theorem tick_line {d : Nd} {l l3 path : List UInt8} {ST : ByteArray} (h : l3 = l ++ (path ++ (if path = [] then [47] else []) ++ (if d.dir then [32, 100, 32] else [32, 102, 32] ++ dec d.data.length ++ [32] ++ dec d.links ++ [32]))) (h1 : ST.data.toList = dec d.tick) :
    l3 ++ (ST ++ (⟨#[10]⟩ : ByteArray)).data.toList = l ++ lineOf path d := by
  rw [h, ByteArray.data_append, Array.toList_append, h1]
  unfold lineOf
  simp only [List.append_assoc]

theorem keys_node (d : Nd) (w : World) : Calls Tryz.prog 71 #[mapV d] w fun e w' => e = .returned (.func (.func 109) #[] #[.pointer (some ⟨w.heap.size, 0, none⟩)]) ∧ w' = w.alloc (.cells #[mapV d] 130) := by
  unfold mapV
  split
  · exact keys_names (some d.mb) w
  · exact keys_names none w
theorem sorted_node {B0 n : Nat} {w : World} {d : Nd} (h : NodeAt B0 w n d) (hn : d.names.length ≤ 1000000000) (hs : ∀ p ∈ d.names, p.1.size ≤ 140737488355328) :
    Calls Tryz.prog 70 #[.func (.func 109) #[] #[.pointer (some ⟨w.heap.size, 0, none⟩)]] (w.alloc (.cells #[mapV d] 130)) fun e w' => SortPost (w.alloc (.cells #[mapV d] 130)) d.names e w' := by
  unfold mapV
  cases hd : d.dir with
  | true => exact sorted_names (h.map hd) (fun p hp => by have := hs p hp; omega) hn
  | false =>
    rw [h.file hd]
    exact sorted_nil w

theorem TS.bld_lt {B0 B b wb : Nat} {T : Tr} {l : List UInt8} {w : World} (h : TS B0 B b wb T l w) : b < w.heap.size := by
  obtain ⟨_, p, v, _, h1, _⟩ := bld_parts h.bld
  exact lt_of_heap h1

theorem names_of_row {w : World} {base b c : Nat} {a : Option Addr} {ss : List (List UInt8)} (h : w.ownsRow base 9 1 (.slice a ss.length c) ss.length (ss.map encStr)) (hb : b < base) : NamesAt w b a ss := by
  intro j hj
  rcases h.2 with ⟨_, h0⟩ | ⟨g, cap, cur, h1, h2, h3, _, _, _, h6⟩
  · omega
  · simp only [Value.slice.injEq] at h1
    refine ⟨g, cur, h1.1, by omega, h3, ?_⟩
    have := congrArg (fun x => x[j]?) h6
    simp only [List.getElem?_take, Nat.mul_one, hj, if_true, Array.getElem?_toList, List.getElem?_map, List.getElem?_eq_getElem hj, Option.map_some] at this
    exact this

/-- The texts of the first names. -/
def Tr.firstTexts (T : Tr) (f : Nat) (path : List UInt8) (d : Nd) (k : Nat) : List UInt8 := ((sortedNames d.names).take k).flatMap fun s => T.text f (path ++ [47] ++ s) ((look d.names ⟨s.toArray⟩).getD 0)

theorem child_text {T : Tr} {f k' : Nat} {d : Nd} {P S : ByteArray} {s : List UInt8} (hS : S = ⟨s.toArray⟩) (h : look d.names S = some k') :
    T.text f (P ++ ⟨#[47]⟩ ++ S).data.toList k' = T.text f (P.data.toList ++ [47] ++ s) ((look d.names ⟨s.toArray⟩).getD 0) := by
  have e : (P ++ ⟨#[47]⟩ ++ S).data.toList = P.data.toList ++ [47] ++ s := by
    rw [hS]
    simp [ByteArray.data_append]
  rw [e, ← hS, h]
  rfl
theorem firstTexts_zero (T : Tr) (f : Nat) (path : List UInt8) (d : Nd) : T.firstTexts f path d 0 = [] := rfl
theorem firstTexts_next (T : Tr) (f : Nat) (path : List UInt8) (d : Nd) {k : Nat} (h : k < (sortedNames d.names).length) :
    T.firstTexts f path d (k + 1) = T.firstTexts f path d k ++ T.text f (path ++ [47] ++ (sortedNames d.names)[k]) ((look d.names ⟨((sortedNames d.names)[k]).toArray⟩).getD 0) := by
  unfold Tr.firstTexts
  rw [List.take_succ_eq_append_getElem h, List.flatMap_append]
  simp
theorem firstTexts_all (T : Tr) (f : Nat) (path : List UInt8) (d : Nd) : T.firstTexts f path d (sortedNames d.names).length = (sortedNames d.names).flatMap fun s => T.text f (path ++ [47] ++ s) ((look d.names ⟨s.toArray⟩).getD 0) := by
  unfold Tr.firstTexts
  rw [List.take_length]
theorem firstTexts_le (T : Tr) (f : Nat) (path : List UInt8) (d : Nd) (k : Nat) : (T.firstTexts f path d k).length ≤ ((sortedNames d.names).flatMap fun s => T.text f (path ++ [47] ++ s) ((look d.names ⟨s.toArray⟩).getD 0)).length := by
  unfold Tr.firstTexts
  conv => rhs; rw [← List.take_append_drop k (sortedNames d.names), List.flatMap_append, List.length_append]
  omega

set_option maxRecDepth 100000 in
set_option maxHeartbeats 4000000 in
theorem text_walk {B0 B b wb : Nat} {T : Tr} (hok : TxOk T) : ∀ (f : Nat) (P : ByteArray) (n : Nat) (l : List UInt8) (w : World), T.deep f n → TS B0 B b wb T l w → l.length + (T.text f P.data.toList n).length ≤ 140737488355328 →
    Calls Tryz.prog 67 #[.string P, .pointer (some ⟨n, 0, none⟩), .pointer (some ⟨b, 0, none⟩), .pointer (some ⟨wb, 0, none⟩)] w fun e w' => TxPost B b (l ++ T.text f P.data.toList n) w e w' := by
  intro f
  induction f with
  | zero => intro P n l w hd; exact hd.elim
  | succ f ih =>
    intro P n l w hd hts hlen
    obtain ⟨d, hnd, hkids⟩ := hd
    have IH := Lib.hid ih
    have HOK := Lib.hid hok
    have HND := Lib.hid hnd
    have HK := Lib.hid hkids
    have HTS := Lib.hid hts
    rw [Tr.text_succ hnd, List.length_append] at hlen
    have HLEN := Lib.hid hlen
    clear ih hok hkids hlen
    obtain ⟨k1, k2, k3, k4, k5, k6, k7⟩ := HOK.out n d hnd
    have K7 := Lib.hid k7
    have hdl : (d.data.length : Int) ≤ 140737488355328 := by omega
    have HPS := Lib.hid (size_data P)
    clear hnd hts k7
    have HW1 : Hid (Calls Tryz.prog 68 #[.pointer (some ⟨b, 0, none⟩), .string P] w fun e w' => BWPost B b (l ++ P.data.toList) P.size w e w') := by
      refine wsOk HTS.out P ?_
      have h := HLEN.out
      have e := HPS.out
      unfold lineOf at h
      rw [List.length_append, List.length_append, List.length_append] at h
      omega
    have HPE : Hid (P.toList = P.data.toList) := ByteArray.toList_eq P
    go_enter Tryz.func67, Tryz.ntmps67
    go_upto_if 11 with (refine HW1.out.mono ?_; rintro e w1 ⟨rfl, hb1, hk1, ho1⟩)
    have HTS1 := Lib.hid (HTS.out.next hb1 hk1 ho1)
    have HB1 := Lib.hid hk1
    have HO1 := Lib.hid ho1
    clear hb1 hk1 ho1 HW1
    go_cut [] (fun wx => ∃ l2, Hid (TS B0 B b wb T l2 wx) ∧ Hid (Below B w wx) ∧ Hid (Lib.OthersKept 5 (some b) w wx) ∧ Hid (l2 = l ++ (P.data.toList ++ (if P.data.toList = [] then [47] else []))))
    case first =>
      by_cases hP : P.toList.isEmpty = true
      · have e : P.data.toList = [] := by rw [← HPE.out]; simpa using hP
        have HE := Lib.hid e
        have HR1 : Hid ((l ++ P.data.toList).length + (⟨#[47]⟩ : ByteArray).size ≤ 140737488355328) := by
          have h := HLEN.out
          unfold lineOf at h
          rw [e] at h ⊢
          simp only [List.append_nil, if_true, List.length_append, List.nil_append, List.length_cons, List.length_nil] at h ⊢
          have e1 : (⟨#[47]⟩ : ByteArray).size = 1 := rfl
          show _ ≤ _
          omega
        clear e
        rw [hP]
        go_wp2_with fail
        refine (wsOk HTS1.out _ HR1.out).mono ?_
        rintro e w2 ⟨rfl, hb2, hk2, ho2⟩
        have HTS2 := Lib.hid (HTS1.out.next hb2 hk2 ho2)
        have HB2 := Lib.hid (HB1.out.trans hk2)
        have HO2 := Lib.hid (HO1.out.trans ho2)
        clear hb2 hk2 ho2
        go_wp2_with fail
        go_meet
        case rel =>
          refine ⟨_, HTS2.out, HB2.out, HO2.out, ?_⟩
          show _ = _
          rw [if_pos HE.out, List.append_assoc]
      · have hPf : P.toList.isEmpty = false := by simpa using hP
        have e : ¬ P.data.toList = [] := by rw [← HPE.out]; simpa using hP
        have HE := Lib.hid e
        clear e hP
        rw [hPf]
        go_wp2_with fail
        go_meet
        case rel =>
          refine ⟨_, HTS1.out, HB1.out, HO1.out, ?_⟩
          show _ = _
          rw [if_neg HE.out, List.append_nil]
    case rest =>
      obtain ⟨l2, HTS2, HB2, HO2, HL2⟩ := hcut
      clear HTS1 HB1 HO1
      have g0 := cell_of (o := 0) (HTS2.out.rep.node n d HND.out).cells rfl
      go_upto_if 16 with fail
      go_cut [] (fun wx => ∃ l3, Hid (TS B0 B b wb T l3 wx) ∧ Hid (Below B w wx) ∧ Hid (Lib.OthersKept 5 (some b) w wx) ∧ Hid (l3 = l ++ (P.data.toList ++ (if P.data.toList = [] then [47] else []) ++ (if d.dir then [32, 100, 32] else [32, 102, 32] ++ dec d.data.length ++ [32] ++ dec d.links ++ [32]))))
      case first =>
        cases hdir : d.dir
        · rw [hdir] at g0
          have HDIR := Lib.hid hdir
          have g1 := cell_of (o := 1) (HTS2.out.rep.node n d HND.out).cells rfl
          have g3 := cell_of (o := 3) (HTS2.out.rep.node n d HND.out).cells rfl
          obtain ⟨ba, bc, hbv⟩ := owns_form (HTS2.out.rep.node n d HND.out).row
          rw [hbv] at g1
          have HBV := Lib.hid hbv
          have HROOM : Hid (l2.length + 5 + (Lib.decDigits (d.data.length : Int).toNat).length + (Lib.decDigits d.links.toNat).length ≤ 140737488355328) := by
            have h := HLEN.out
            have h3 := congrArg List.length HL2.out
            unfold lineOf dec at h
            rw [hdir] at h
            simp only [List.length_append, List.length_cons, List.length_nil, Bool.false_eq_true, if_false] at h h3
            show _ ≤ _
            omega
          clear hdir hbv
          go_wp2_with fail
          go_region_with (first
            | (go_at_call_of 69 (Value.int IntKind.i64 d.links); refine (scanText_ok _ (by omega) (by omega) _).mono ?_; rintro e w' ⟨SL, rfl, hSL, hsL, hb⟩; have HSL := Lib.hid hSL; clear hSL; replace HB2 := Lib.hid (HB2.out.trans ((show Below _ _ _ from (by first | exact hb | exact ((Below.refl _ _).drew).trans hb)).mono HTS2.out.size)); replace HO2 := Lib.hid (HO2.out.trans (others_below (by first | exact hb | exact ((Below.refl _ _).drew).trans hb))); replace HTS2 := Lib.hid (HTS2.out.below (by first | exact hb | exact ((Below.refl _ _).drew).trans hb)); clear hb; have q1 := cell_of (o := 1) (HTS2.out.rep.node n d HND.out).cells rfl; have q3 := cell_of (o := 3) (HTS2.out.rep.node n d HND.out).cells rfl; rw [HBV.out] at q1)
            | (go_at_call 69; refine (scanText_ok _ (by omega) (by omega) _).mono ?_; rintro e w' ⟨SN, rfl, hSN, hsN, hb⟩; have HSN := Lib.hid hSN; clear hSN; replace HB2 := Lib.hid (HB2.out.trans ((show Below _ _ _ from (by first | exact hb | exact ((Below.refl _ _).drew).trans hb)).mono HTS2.out.size)); replace HO2 := Lib.hid (HO2.out.trans (others_below (by first | exact hb | exact ((Below.refl _ _).drew).trans hb))); replace HTS2 := Lib.hid (HTS2.out.below (by first | exact hb | exact ((Below.refl _ _).drew).trans hb)); clear hb; have q1 := cell_of (o := 1) (HTS2.out.rep.node n d HND.out).cells rfl; have q3 := cell_of (o := 3) (HTS2.out.rep.node n d HND.out).cells rfl; rw [HBV.out] at q1)
            | (go_at_call 68; refine (wsOk HTS2.out _ (file_room HROOM.out HSN.out HSL.out)).mono ?_; rintro e w3 ⟨rfl, hb3, hk3, ho3⟩))
          all_goals
            have HTS3 := Lib.hid (HTS2.out.next hb3 hk3 ho3)
            have HB3 := Lib.hid (HB2.out.trans hk3)
            have HO3 := Lib.hid (HO2.out.trans ho3)
            have HL3 := Lib.hid (file_line HDIR.out HL2.out HSN.out HSL.out)
            clear hb3 hk3 ho3
            go_wp2_with fail
            go_meet
            case rel => exact ⟨_, HTS3.out, HB3.out, HO3.out, HL3.out⟩
        · rw [hdir] at g0
          have HDIR := Lib.hid hdir
          have HROOM : Hid (l2.length + (⟨#[32, 100, 32]⟩ : ByteArray).size ≤ 140737488355328) := by
            have h := HLEN.out
            have h3 := congrArg List.length HL2.out
            unfold lineOf dec at h
            rw [hdir] at h
            simp only [List.length_append, List.length_cons, List.length_nil, if_true] at h h3
            have c3 : (⟨#[32, 100, 32]⟩ : ByteArray).size = 3 := rfl
            show _ ≤ _
            omega
          clear hdir
          go_wp2_with fail
          refine (wsOk HTS2.out _ HROOM.out).mono ?_
          rintro e w3 ⟨rfl, hb3, hk3, ho3⟩
          have HTS3 := Lib.hid (HTS2.out.next hb3 hk3 ho3)
          have HB3 := Lib.hid (HB2.out.trans hk3)
          have HO3 := Lib.hid (HO2.out.trans ho3)
          have HL3 := Lib.hid (dir_line HDIR.out HL2.out)
          clear hb3 hk3 ho3
          go_wp2_with fail
          go_meet
          case rel => exact ⟨_, HTS3.out, HB3.out, HO3.out, HL3.out⟩
      case rest =>
        obtain ⟨l3, HTS3, HB3, HO3, HL3⟩ := hcut
        clear HTS2 HB2 HO2 HL2 g0
        have g4 := cell_of (o := 4) (HTS3.out.rep.node n d HND.out).cells rfl
        have HROOM2 : Hid (l3.length + (Lib.decDigits d.tick.toNat).length + 1 + ((sortedNames d.names).flatMap fun s => T.text f (P.data.toList ++ [47] ++ s) ((look d.names ⟨s.toArray⟩).getD 0)).length ≤ 140737488355328) := by
          have h := HLEN.out
          have h3 := congrArg List.length HL3.out
          unfold lineOf at h
          unfold dec at h h3
          simp only [List.length_append, List.length_cons, List.length_nil] at h h3
          show _ ≤ _
          omega
        clear HLEN
        go_wp2_with fail
        refine (scanText_ok _ k3 (by omega) _).mono ?_
        rintro e w4 ⟨ST, rfl, hST, hsT, hb4⟩
        have HST := Lib.hid hST
        have HTS4 := Lib.hid (HTS3.out.below hb4)
        have HB4 := Lib.hid (HB3.out.trans (hb4.mono HTS3.out.size))
        have HO4 := Lib.hid (HO3.out.trans (others_below hb4))
        clear hST hb4 g4 HTS3 HB3 HO3
        go_wp2_with fail
        refine (wsOk HTS4.out _ (tick_room HROOM2.out HST.out)).mono ?_
        rintro e w5 ⟨rfl, hb5, hk5, ho5⟩
        have HTS5 := Lib.hid (HTS4.out.next hb5 hk5 ho5)
        have HB5 := Lib.hid (HB4.out.trans hk5)
        have HO5 := Lib.hid (HO4.out.trans ho5)
        have HL5 := Lib.hid (tick_line HL3.out HST.out)
        have HROOM5 := Lib.hid (tick_left HROOM2.out HST.out)
        clear hb5 hk5 ho5 HTS4 HB4 HO4 HL3 HROOM2
        generalize l3 ++ (ST ++ (⟨#[10]⟩ : ByteArray)).data.toList = l5 at *
        clear HST hsT
        have HN5 := Lib.hid (HTS5.out.rep.node n d HND.out)
        have g2 := cell_of (o := 2) HN5.out.cells rfl
        go_wp2_with fail
        refine (keys_node d _).mono ?_
        rintro e w6 ⟨rfl, rfl⟩
        go_wp2_with fail
        refine (sorted_node HN5.out k6 K7.out).mono ?_
        rintro e w7 ⟨v, rfl, hrow, hb7⟩
        obtain ⟨va, vc, rfl⟩ := owns_form hrow
        have HB57 := Lib.hid (below_trans (below_alloc _ _) hb7)
        have HTS7 := Lib.hid (HTS5.out.below HB57.out)
        have HB7 := Lib.hid (HB5.out.trans (HB57.out.mono HTS5.out.size))
        have HO7 := Lib.hid (HO5.out.trans (others_below HB57.out))
        have HNM := Lib.hid (names_of_row hrow (Nat.lt_of_lt_of_le HTS5.out.bld_lt (below_alloc _ _).size))
        have HSSL : Hid ((sortedNames d.names).length = d.names.length) := by show _ = _; unfold sortedNames; rw [(List.mergeSort_perm _ _).length_eq, List.length_map]
        have hssl : ((sortedNames d.names).length : Int) ≤ 1000000000 := by rw [HSSL.out]; omega
        clear hrow hb7 HTS5 HB5 HO5 HB57 g2 HN5 HSSL
        obtain ⟨ss, hss⟩ : ∃ ss, ss = sortedNames d.names := ⟨_, rfl⟩
        have HSS := Lib.hid hss
        rw [← hss] at HNM hssl ⊢
        clear hss
        go_wp2_with fail
        go_loopw [48] (fun idx wr => ∃ k : Nat, k ≤ ss.length ∧ idx = .int .i64 k ∧ Hid (TS B0 B b wb T (l5 ++ T.firstTexts f P.data.toList d k) wr) ∧ Hid (Below B w wr) ∧ Hid (Lib.OthersKept 5 (some b) w wr) ∧ Hid (NamesAt wr b va ss)) (fun idx _ => ss.length - (intOf idx).toNat)
        case atStart => exact ⟨0, Nat.zero_le _, rfl, by rw [firstTexts_zero, List.append_nil]; exact HTS7.out, HB7.out, HO7.out, HNM.out⟩
        case round =>
          clear HTS7 HB7 HO7 HNM
          obtain ⟨k, hk, rfl, hts, hbw, how, hnm⟩ := hrel
          by_cases hlt : k < ss.length
          · have hki : (k : Int) < ss.length := by omega
            obtain ⟨gb, cur, hva, hgb, hg, hcur⟩ := hnm.out k hlt
            subst hva
            have HNR : Hid (NamesAt wr.drew b (some ⟨gb, 0, none⟩) ss) := hnm.out
            have hcell := cell_of (o := k) hg hcur
            obtain ⟨S, hS⟩ : ∃ S : ByteArray, S = ⟨(ss[k]).toArray⟩ := ⟨_, rfl⟩
            rw [← hS] at hcell
            have HMEM : Hid (∃ kk, (S, kk) ∈ d.names) := by
              rw [hS]
              exact mem_sorted (by rw [← HSS.out]; exact List.getElem_mem hlt)
            obtain ⟨k', hlk⟩ : ∃ k', look d.names S = some k' := by
              obtain ⟨kk, hm⟩ := HMEM.out
              exact look_some hm
            have hdir : d.dir = true := by
              cases hdd : d.dir with
              | true => rfl
              | false =>
                have h := (hts.out.rep.node n d HND.out).file hdd
                obtain ⟨kk, hm⟩ := HMEM.out
                rw [h] at hm
                cases hm
            have hmc : wr.cell? ⟨n, 2, none⟩ = some (.map (some d.mb)) := by
              have h1 := cell_of (o := 2) (hts.out.rep.node n d HND.out).cells rfl
              have h2 : mapV d = .map (some d.mb) := by unfold mapV; rw [hdir]; rfl
              rw [h2] at h1
              exact h1
            have hlk2 : (Instr.lookup 130 (.map (some d.mb)) (.string S) false).run Tryz.prog wr.drew = .ok (.pointer (some ⟨k', 0, none⟩)) wr.drew := by
              have h := run_lookup_names (w := wr.drew) ((hts.out.rep.node n d HND.out).map hdir) S
              rw [hlk] at h
              exact h
            have hfn := cell_of (o := 0) hts.out.fn rfl
            unfold funcV at hfn
            have hSz : S.size ≤ 140737488355328 := K7.out (S, k') (look_mem hlk)
            have hPz : P.size ≤ 140737488355328 := by
              have h1 := HROOM5.out
              have h2 := congrArg List.length HL5.out
              have h3 := HPS.out
              unfold lineOf at h2
              simp only [List.length_append] at h2
              omega
            have HIH : Hid (Calls Tryz.prog 67 #[.string (P ++ ⟨#[47]⟩ ++ S), .pointer (some ⟨k', 0, none⟩), .pointer (some ⟨b, 0, none⟩), .pointer (some ⟨wb, 0, none⟩)] wr.drew fun e w' => TxPost B b (l5 ++ T.firstTexts f P.data.toList d (k + 1)) wr.drew e w') := by
              have hlt' : k < (sortedNames d.names).length := by rw [← HSS.out]; exact hlt
              have e1 : ss[k] = (sortedNames d.names)[k] := by congr 1
              have h := IH.out (P ++ ⟨#[47]⟩ ++ S) k' (l5 ++ T.firstTexts f P.data.toList d k) wr.drew (HK.out _ (look_mem hlk)) (hts.out.below ((Below.refl _ _).drew))
              rw [child_text hS hlk, List.append_assoc l5, e1, ← firstTexts_next T f P.data.toList d hlt'] at h
              refine h ?_
              have h1 := HROOM5.out
              have h2 := firstTexts_le T f P.data.toList d (k + 1)
              rw [firstTexts_next T f P.data.toList d hlt', List.length_append] at h2
              rw [List.length_append]
              omega
            clear hS hlk hdir hg hcur hlt hnm
            go_wp2_with fail
            go_region_with (go_at_call 67; refine HIH.out.mono ?_; rintro e w9 ⟨rfl, hb9, hk9, ho9⟩)
            all_goals
              have HTS9 := Lib.hid ((hts.out.below ((Below.refl _ _).drew)).next hb9 hk9 ho9)
              have HB9 := Lib.hid ((hbw.out.drew).trans hk9)
              have HO9 := Lib.hid (how.out.drew.trans ho9)
              have HNM9 := Lib.hid (HNR.out.next ho9)
              clear hb9 hk9 ho9
              go_wp2_with fail
              go_roundw
              case rel => exact ⟨k + 1, by omega, by go_num, HTS9.out, HB9.out, HO9.out, HNM9.out⟩
              case measure => simp [intOf]; omega
          · obtain rfl : k = ss.length := by omega
            have HRES : Hid (l5 ++ T.firstTexts f P.data.toList d ss.length = l ++ T.text (f + 1) P.data.toList n) := by
              show _ = _
              rw [Tr.text_succ HND.out, HSS.out, firstTexts_all, HL5.out, List.append_assoc]
            go_wp2_with fail
            go_end0
            exact ⟨rfl, HRES.out ▸ hts.out.bld, hbw.out, how.out⟩
end Go.Proofs.YtiejfbkbjahcgaaGreatDoor
