/-
  KernShares's parts: a tree of one file, known whole; a kern over it whose tree nothing turns.
  KernShares's walk.
-/
import Derived.Test.YtiejfbkbjahcgaaGreatDoorPre
import Derived.Test.YtiejfbkbjahcgaaGreatDoorAwake16
import Derived.Test.YtiejfbkbjahcgaaGreatDoorKAdds
import Derived.Deep.CutRange
namespace Go.Proofs.YtiejfbkbjahcgaaGreatDoor
open Go Go.RowKit

def fTr (tb root mb k : Nat) (bv : Value) (l : List UInt8) : Tr := (newTr tb root mb).newFile root (rootNd mb) fName k bv l
theorem f_root (tb mb : Nat) {root k : Nat} (bv : Value) (l : List UInt8) (h : root ≠ k) : (fTr tb root mb k bv l).nd root = some { dir := true, bv := .slice none 0 0, data := [], names := [(fName, k)], mb := mb, links := 0, tick := 1 } := newFile_i _ _ _ _ _ h
theorem f_file (tb mb root k : Nat) (bv : Value) (l : List UInt8) : (fTr tb root mb k bv l).nd k = some { dir := false, bv := bv, data := l, names := [], mb := 0, links := 1, tick := 1 } := newFile_k _ _ _ _ _ _ _
theorem f_ok (tb mb : Nat) {root k : Nat} (bv : Value) {l : List UInt8} (h : root ≠ k) (hl : l.length ≤ 1000) : TxOk (fTr tb root mb k bv l) := by
  intro n d hn
  rcases newFile_cases h hn with ⟨_, rfl⟩ | ⟨_, rfl⟩ | ⟨h1, _, h3⟩
  · exact ⟨by show (0 : Int) ≤ 1; decide, by show (1 : Int) ≤ _; decide, by show (0 : Int) ≤ 1; decide, by show (1 : Int) ≤ _; decide, by show l.length ≤ _; omega, by show 0 ≤ _; decide, fun p hp => by cases hp⟩
  · refine ⟨by show (0 : Int) ≤ 0; decide, by show (0 : Int) ≤ _; decide, by show (0 : Int) ≤ 1; decide, by show (1 : Int) ≤ _; decide, by show 0 ≤ _; decide, by show 1 ≤ _; decide, fun p hp => ?_⟩
    rcases List.mem_singleton.1 hp with rfl
    show 1 ≤ _
    decide
  · exact absurd (newTr_nd h3).1 h1
theorem f_deep (tb mb : Nat) {root k : Nat} (bv : Value) (l : List UInt8) (h : root ≠ k) : (fTr tb root mb k bv l).deep 2 (fTr tb root mb k bv l).root :=
  ⟨_, f_root tb mb bv l h, fun p hp => by
    rcases List.mem_singleton.1 hp with rfl
    exact ⟨_, f_file tb mb root k bv l, fun p hp => by cases hp⟩⟩
theorem f_len (tb mb : Nat) {root k : Nat} (bv : Value) {l : List UInt8} (h : root ≠ k) (hl : l.length ≤ 1000) : ((fTr tb root mb k bv l).text 2 [] (fTr tb root mb k bv l).root).length ≤ 140737488355328 := by
  rw [show (fTr tb root mb k bv l).root = root from rfl, Tr.text_succ (f_root tb mb bv l h)]
  have hs : sortedNames [(fName, k)] = [[102]] := by
    unfold sortedNames
    rw [List.map_cons, List.map_nil, List.mergeSort_singleton]
    rfl
  have hb : ((⟨([102] : List UInt8).toArray⟩ : ByteArray) == fName) = true := (MapKept.bytes_beq _ _).2 rfl
  have hk : (look [(fName, k)] ⟨([102] : List UInt8).toArray⟩).getD 0 = k := by
    simp [look, hb]
  show (lineOf [] _ ++ (sortedNames [(fName, k)]).flatMap _).length ≤ _
  rw [hs, List.flatMap_cons, List.flatMap_nil, List.append_nil]
  show (lineOf [] _ ++ (fTr tb root mb k bv l).text 1 ([] ++ [47] ++ [102]) ((look [(fName, k)] ⟨([102] : List UInt8).toArray⟩).getD 0)).length ≤ _
  rw [hk, Tr.text_succ (f_file tb mb root k bv l)]
  have hs0 : sortedNames [] = [] := by
    unfold sortedNames
    rw [List.map_nil, List.mergeSort_nil]
  show (lineOf [] _ ++ (lineOf _ _ ++ (sortedNames []).flatMap _)).length ≤ _
  rw [hs0, List.flatMap_nil, List.append_nil, List.length_append]
  have q1 := lineOf_len [] (d := { dir := true, bv := .slice none 0 0, data := [], names := [(fName, k)], mb := mb, links := 0, tick := 1 }) (by show (0 : Int) ≤ _; decide) (by show (1 : Int) ≤ _; decide) (by show 0 ≤ _; decide)
  have q2 := lineOf_len ([] ++ [47] ++ [102]) (d := { dir := false, bv := bv, data := l, names := [], mb := 0, links := 1, tick := 1 }) (by show (1 : Int) ≤ _; decide) (by show (1 : Int) ≤ _; decide) (by show l.length ≤ _; omega)
  simp only [List.length_append, List.length_cons, List.length_nil] at q1 q2
  omega

/-- A kern over a tree that nothing turns. -/
structure SH (B : Nat) (w : World) (T : Tr) (kb : Nat) (K : Ks) (wr : World) : Prop where
  rep : KRep B wr K
  tr : K.T = T
  hkb : K.kb = kb
  below : Below B w wr
  base : B ≤ wr.heap.size

section
variable {B : Nat} {w wr w' : World} {T : Tr} {kb kk : Nat} {K : Ks}

theorem SH.next (h : SH B w T kb K wr) (k : Below wr.heap.size wr w') : SH B w T kb K w' :=
  ⟨h.rep.below k, h.tr, h.hkb, h.below.trans (k.mono h.base), Nat.le_trans h.base k.size⟩

/-- What an Open to read leaves. -/
def SHOpen (B : Nat) (w : World) (T : Tr) (kb kk : Nat) (K : Ks) (j : Nat) (wr : World) (e : Ending) (w' : World) : Prop :=
  e = .returned (.tuple #[.int .i64 j, .nilIface]) ∧ ∃ b f, wr.heap.size ≤ b ∧ SH B w T kb (K.opened T j b ⟨f, 0, 0, kk⟩) w'
theorem SH.openRead {E : Nat → Addr} (hE : Ctx E B wr) (h : SH B w T kb K wr) (d : Nd) (hf : T.fileOf fName = .ok kk) (hd : T.nd kk = some d) (hdir : d.dir = false) (j : Nat) (hj : freeFd K.fds 0 = some j) :
    Calls Tryz.prog 53 #[.pointer (some ⟨kb, 0, none⟩), .string fName, .int .i64 0] wr fun e w' => SHOpen B w T kb kk K j wr e w' := by
  have ht := h.tr
  have hk := h.hkb
  subst ht hk
  have ho := open_read fName wr hE h.rep.tree (by decide) kk hf
  refine (kopen_any fName 0 wr h.base h.rep j hj (fun T' => T' = K.T) kk ?_ ?_).mono ?_
  · rintro T' rfl
    exact ⟨rfl, ⟨d, hd, hdir⟩, fun n x hn hx => ⟨x, hn, hx⟩⟩
  · exact ho.mono fun e w' hq => ⟨_, rfl, hq⟩
  · rintro e w' ⟨T', rfl, f, b, rfl, _, hb, hK, hkp, _⟩
    exact ⟨rfl, b, f, hb, hK, rfl, rfl, h.below.trans (hkp.below (fun x hx => h.rep.foot_low hx) h.base), Nat.le_trans h.base hkp.size⟩

/-- What a Dup leaves. -/
def SHDup (B : Nat) (w : World) (T : Tr) (kb : Nat) (K : Ks) (fd j : Nat) (e : Ending) (w' : World) : Prop :=
  e = .returned (.tuple #[.int .i64 j, .nilIface]) ∧ SH B w T kb { K with fds := setFd K.fds j (K.fds fd) } w'
theorem SH.dup (h : SH B w T kb K wr) (fd : Nat) (hu : usedFd K.fds fd = true) (j : Nat) (hj : freeFd K.fds 0 = some j) :
    Calls Tryz.prog 54 #[.pointer (some ⟨kb, 0, none⟩), .int .i64 fd] wr fun e w' => SHDup B w T kb K fd j e w' := by
  have ht := h.tr
  have hk := h.hkb
  subst ht hk
  refine (dup_ok h.rep.kern fd hu j hj).mono ?_
  rintro e w' ⟨rfl, hk, hkp⟩
  refine ⟨rfl, h.rep.setFds hk hkp (fun i => ?_), rfl, rfl, h.below.trans (hkp.below (fun x hx => by rw [hx]; exact h.rep.low _ (.inl rfl)) h.base), Nat.le_trans h.base hkp.size⟩
  unfold setFd
  split
  · exact h.rep.goodFds fd
  · exact h.rep.goodFds i
def SHClose (B : Nat) (w : World) (T : Tr) (kb : Nat) (K : Ks) (fd : Nat) (e : Ending) (w' : World) : Prop :=
  e = .returned .nilIface ∧ SH B w T kb { K with fds := setFd K.fds fd none } w'
theorem SH.close (h : SH B w T kb K wr) (fd : Nat) (hu : usedFd K.fds fd = true) :
    Calls Tryz.prog 56 #[.pointer (some ⟨kb, 0, none⟩), .int .i64 fd] wr fun e w' => SHClose B w T kb K fd e w' := by
  have ht := h.tr
  have hk := h.hkb
  subst ht hk
  refine (close_ok h.rep.kern fd hu).mono ?_
  rintro e w' ⟨rfl, hk, hkp⟩
  refine ⟨rfl, h.rep.setFds hk hkp (fun i => ?_), rfl, rfl, h.below.trans (hkp.below (fun x hx => by rw [hx]; exact h.rep.low _ (.inl rfl)) h.base), Nat.le_trans h.base hkp.size⟩
  unfold setFd
  split
  · trivial
  · exact h.rep.goodFds i

/-- What a Read leaves. -/
def SHRead (B : Nat) (w : World) (T : Tr) (kb : Nat) (K : Ks) (b0 f kk p : Nat) (o : List UInt8) (wr : World) (e : Ending) (w' : World) : Prop :=
  ∃ v, e = .returned (.tuple #[v, .nilIface]) ∧ w'.ownsRow wr.heap.size 5 1 v o.length (u8s o) ∧ SH B w T kb { K with fl := setFl K.fl b0 ⟨f, 0, ((p + o.length : Nat) : Int), kk⟩ } w' ∧ Kept K.foot wr w' ∧ (∀ x, ({ K with fl := setFl K.fl b0 ⟨f, 0, ((p + o.length : Nat) : Int), kk⟩ } : Ks).foot x → K.foot x)
theorem SH.read (h : SH B w T kb K wr) (fd n : Nat) (hfd : fd < 16) (b0 f p : Nat) (hf : K.fds fd = some (.file b0)) (hf0 : K.fl b0 = some ⟨f, 0, (p : Nat), kk⟩) (hp : p ≤ 4611686018427387904) (hn : n ≤ 9223372036854775807) (d : Nd) (hd : T.nd kk = some d) (hl : d.data.length ≤ 65536) :
    Calls Tryz.prog 55 #[.pointer (some ⟨kb, 0, none⟩), .int .i64 fd, .int .i64 n] wr fun e w' => SHRead B w T kb K b0 f kk p (readL d.data p n) wr e w' := by
  have ht := h.tr
  have hk := h.hkb
  subst ht hk
  refine (kread_file h.rep fd n hfd b0 hf ⟨f, 0, (p : Nat), kk⟩ hf0 rfl p rfl hp hn d hd (by omega)).mono ?_
  rintro e w' ⟨v, rfl, h1, hK, hkp, hft⟩
  exact ⟨v, rfl, h1, ⟨hK, rfl, rfl, h.below.trans (hkp.below (fun x hx => h.rep.foot_low hx) h.base), Nat.le_trans h.base hkp.size⟩, hkp, hft⟩
end

theorem wrapS {x : Int} (h0 : 0 ≤ x) (h1 : x < 1000000) : wrap64 x = x := by
  unfold wrap64
  omega
theorem mod_ok (a : Int) : ∃ m : Nat, m < 1000 ∧ (wrap64 (a.tmod 1000 + 1000)).tmod 1000 = m := by
  have h1 : a.tmod 1000 < 1000 := Int.tmod_lt_of_pos _ (by decide)
  have h2 : -1000 < a.tmod 1000 := Int.lt_tmod_of_pos _ (by decide)
  rw [wrapS (x := a.tmod 1000 + 1000) (by omega) (by omega)]
  have h3 : 0 ≤ (a.tmod 1000 + 1000).tmod 1000 := Int.tmod_nonneg _ (by omega)
  have h4 : (a.tmod 1000 + 1000).tmod 1000 < 1000 := Int.tmod_lt_of_pos _ (by decide)
  exact ⟨((a.tmod 1000 + 1000).tmod 1000).toNat, by omega, by omega⟩

theorem src_first {w : World} {a : Option Addr} {c : Nat} {l : List UInt8} (h : Src w (.slice a l.length c) l) {n : Nat} (hn : n ≤ l.length) : Src w (.slice a n c) (l.take n) ∧ l.length ≤ c := by
  rcases h with ⟨h1, h2⟩ | ⟨ad, c', h1, h2, h3⟩
  · subst h2
    simp only [Value.slice.injEq] at h1
    obtain ⟨rfl, _, rfl⟩ := h1
    have : n = 0 := by simpa using hn
    subst this
    exact ⟨.inl ⟨rfl, rfl⟩, Nat.le_refl _⟩
  · simp only [Value.slice.injEq] at h1
    obtain ⟨rfl, _, rfl⟩ := h1
    have e : (l.take n).length = n := by rw [List.length_take]; omega
    refine ⟨.inr ⟨ad, c, by rw [e], by omega, fun j hj => ?_⟩, h2⟩
    rw [List.getElem_take]
    exact h3 j (by omega)
/-- A piece of a source, as slicing gives it. -/
theorem src_mid {w : World} {a : Option Addr} {c : Nat} {l : List UInt8} (h : Src w (.slice a l.length c) l) {p m : Nat} (hp : p + m ≤ l.length) : Src w (.slice (if c = p then a else a.map (·.add p)) m (c - p)) ((l.drop p).take m) := by
  have e : ((l.drop p).take m).length = m := by rw [List.length_take, List.length_drop]; omega
  rcases h with ⟨h1, h2⟩ | ⟨ad, c', h1, h2, h3⟩
  · subst h2
    simp only [Value.slice.injEq] at h1
    obtain ⟨rfl, _, rfl⟩ := h1
    have h4 : p = 0 ∧ m = 0 := by simp at hp; omega
    obtain ⟨rfl, rfl⟩ := h4
    exact .inl ⟨rfl, rfl⟩
  · simp only [Value.slice.injEq] at h1
    obtain ⟨rfl, _, rfl⟩ := h1
    by_cases hc : c = p
    · rw [if_pos hc]
      refine .inr ⟨ad, c - p, by rw [e], by rw [e]; omega, fun j hj => ?_⟩
      rw [e] at hj
      omega
    · rw [if_neg hc]
      refine .inr ⟨ad.add p, c - p, by rw [e]; rfl, by rw [e]; omega, fun j hj => ?_⟩
      rw [Addr.add_add, List.getElem_take, List.getElem_drop]
      exact h3 (p + j) (by omega)

theorem bytes_same {l : List UInt8} {n : Nat} (hn : l.length = n) (a c a' c') (w : World) (h : Src w (.slice a n c) l) (h' : Src w (.slice a' n c') l) :
    Calls Tryz.prog 26 #[.slice a n c, .slice a' n c'] w fun e w' => e = .returned (.bool true) ∧ w' = w := by
  subst hn
  exact bytes_true a c a' c' w h h'

theorem three_ints : ([0, 1, 2] : List Nat).map (fun (n : Nat) => (n : Int)) = [0, 1, 2] := rfl

theorem setFl_here (fl : Nat → Option Fl) (b : Nat) (f : Fl) : setFl fl b f b = some f := by unfold setFl; rw [if_pos rfl]
theorem setFl_there (fl : Nat → Option Fl) {b x : Nat} (f : Fl) (h : x ≠ b) : setFl fl b f x = fl x := by unfold setFl; rw [if_neg h]

set_option maxRecDepth 100000 in
set_option maxHeartbeats 1000000 in
theorem kernShares_any {E : Nat → Addr} {B0 : Nat} (w : World) (hE : Ctx E B0 w) (da : Option Addr) (dc : Nat) (dl : List UInt8) (hd : Src w (.slice da dl.length dc) dl) (_hdl : dl.length ≤ 9223372036854775807)
    (a : Int) (_ha : -9223372036854775808 ≤ a ∧ a ≤ 9223372036854775807) (b : Int) (_hb : -9223372036854775808 ≤ b ∧ b ≤ 9223372036854775807) :
    Calls Tryz.prog 12 #[.slice da dl.length dc, .int .i64 a, .int .i64 b] w fun e w' => AwPost w e w' := by
  have HE := Lib.hid hE.raise2
  have HD := Lib.hid hd
  obtain ⟨m, hm, hwa⟩ := mod_ok a
  obtain ⟨n, hn, hwb⟩ := mod_ok b
  clear hE hd
  go_enter Tryz.func12, Tryz.ntmps12
  go_upto_if 25 with fail
  go_cut [0] from 26 (fun s0 wx => wx = w ∧ ∃ l : List UInt8, s0 = .slice da l.length dc ∧ l.length ≤ 1000 ∧ Hid (Src w (.slice da l.length dc) l))
  case first =>
    by_cases h1 : dl.length ≤ 1000
    · have h1i : ¬ (1000 : Int) < dl.length := by omega
      go_wp2_with fail
      go_meet
      case rel => exact ⟨rfl, dl, rfl, h1, HD.out⟩
    · have h1i : (1000 : Int) < dl.length := by omega
      have ht := src_first HD.out (n := 1000) (by omega)
      have hdc : (1000 : Int) ≤ dc := by have := ht.2; omega
      have HT := Lib.hid ht.1
      have hlt : (dl.take 1000).length = 1000 := by rw [List.length_take]; omega
      have HLT := Lib.hid hlt
      clear ht hlt
      go_wp2_with fail
      go_meet
      case rel => exact ⟨rfl, dl.take 1000, by rw [HLT.out]; try rfl, by rw [HLT.out]; exact Nat.le_refl _, by show Src _ _ _; rw [HLT.out]; exact HT.out⟩
  case rest =>
    obtain ⟨hwx, l, hs0, hl1000, hs⟩ := hcut
    subst hwx hs0
    have HS := Lib.hid hs.out
    clear hs HD
    obtain ⟨nn, hnn⟩ : ∃ nn, nn = min m l.length := ⟨_, rfl⟩
    have HNN := Lib.hid hnn
    clear hnn
    go_wp2_with fail
    clear hwa hwb
    refine (tree_new wc).mono ?_
    intro e w1 hp
    obtain ⟨rfl, hrep1, hb1, hs1⟩ := hp
    have HR1 := Lib.hid (hrep1 wc.heap.size (Nat.le_refl _))
    have HB1 := Lib.hid hb1
    clear hrep1 hb1 hs1
    have HN : Hid (Calls Tryz.prog 52 #[.pointer (some ⟨wc.heap.size + 2, 0, none⟩), .slice none 0 0] w1 fun e w' => KNewPost wc.heap.size w1 (newTr (wc.heap.size + 2) (wc.heap.size + 1) wc.heap.size) [] e w') :=
      kern_new_given w1 _ [] (.inl ⟨rfl, rfl⟩) (by simp) HB1.out.size HR1.out
    clear HR1
    obtain ⟨tb, htb⟩ : ∃ tb, tb = wc.heap.size + 2 := ⟨_, rfl⟩
    obtain ⟨rt, hrt⟩ : ∃ rt, rt = wc.heap.size + 1 := ⟨_, rfl⟩
    rw [← htb, ← hrt] at HN
    rw [← htb]
    clear htb hrt
    go_wp2_with fail
    refine HN.out.mono ?_
    intro e w2 hp
    obtain ⟨K, rfl, hK, hT, hfds, hil, hol, hel, hfl, hb2, hown⟩ := hp
    have HB2 := Lib.hid (below_trans HB1.out hb2)
    have HKR := Lib.hid hK
    have HFD := Lib.hid hfds
    have HTT := Lib.hid hT
    have HWR : Hid (Calls Tryz.prog 20 #[.pointer (some ⟨tb, 0, none⟩), .string fName, .slice da l.length dc, .bool false] w2 fun e w' => WNew wc.heap.size w2 (newTr tb rt wc.heap.size) rt (rootNd wc.heap.size) fName l e w') := by
      have hR2 := hK.tree
      rw [hT] at hR2
      refine write_new (T := newTr tb rt wc.heap.size) fName _ l false w2 (HE.out.below HB2.out) hR2 (by decide) ⟨some rt, fName, none⟩ (find_one tb rt _ clean_f) rfl (by show (1 : Int) < 200; decide) (by show (0 : Int) ≤ 1; decide) (Int.le_refl 0) (by show (0 : Int) ≤ _; decide) (src_up HS.out HB2.out) (fun h0 x hx hf => ?_) (by omega) rt (rootNd wc.heap.size) rfl (newTr_root _ _ _) rfl rfl
      have q1 := src_low2 HS.out h0 x hx
      have q2 := hR2.low x hf
      omega
    clear hK hT hfds hil hol hel hfl hb2 hown HN HB1
    go_wp2_with fail
    refine HWR.out.mono ?_
    rintro e w3 ⟨k, bv, rfl, hk, hR3, hkp3, hft3⟩
    have hrk : rt ≠ k := fun he => by
      have h1 := HKR.out.tree.node_lt (n := rt) (by rw [HTT.out]; exact newTr_root _ _ _)
      omega
    have HSH : Hid (SH wc.heap.size wc (fTr tb rt wc.heap.size k bv l) K.kb { K with T := fTr tb rt wc.heap.size k bv l } w3) := by
      refine ⟨HKR.out.setTree hR3 (by rw [HTT.out]; rfl) (by rw [HTT.out]; exact hkp3) (fun x hx => by rw [HTT.out]; exact hft3 x hx) (fun n d hn hd => ?_), rfl, rfl, HB2.out.trans (hkp3.below (fun x hx => HKR.out.tree.low x (by rw [HTT.out]; exact hx)) HB2.out.size), Nat.le_trans HB2.out.size hkp3.size⟩
      rw [HTT.out] at hn
      obtain ⟨_, rfl⟩ := newTr_nd hn
      cases hd
    have HTX : Hid (∀ W K', SH wc.heap.size wc (fTr tb rt wc.heap.size k bv l) K.kb K' W → Calls Tryz.prog 16 #[.pointer (some ⟨tb, 0, none⟩)] W fun e w' => TTextPost ((fTr tb rt wc.heap.size k bv l).text 2 [] (fTr tb rt wc.heap.size k bv l).root) W e w') := by
      intro W K' h
      have hR := h.rep.tree
      rw [h.tr] at hR
      exact tree_text W hR (f_ok _ _ bv hrk hl1000) 2 (f_deep _ _ bv l hrk) (f_len _ _ bv hrk hl1000)
    have HFO : Hid ((fTr tb rt wc.heap.size k bv l).fileOf fName = .ok k) := fileOf_f (f_root _ _ bv l hrk) rfl (by
      have hb : (fName == fName) = true := (MapKept.bytes_beq fName fName).2 rfl
      simp [look, hb]) (f_file _ _ _ _ _ _) rfl
    have HND : Hid (∃ d, (fTr tb rt wc.heap.size k bv l).nd k = some d ∧ d.dir = false ∧ d.data = l) := ⟨_, f_file _ _ _ _ _ _, rfl, rfl⟩
    obtain ⟨T, hTT⟩ : ∃ T, T = fTr tb rt wc.heap.size k bv l := ⟨_, rfl⟩
    rw [← hTT] at HSH HTX HFO HND
    obtain ⟨K1, hK1⟩ : ∃ K1 : Ks, K1 = { K with T := T } := ⟨_, rfl⟩
    have HF1 : Hid (K1.fds = fds3 K.ib K.ob K.eb) := by rw [hK1]; exact HFD.out
    rw [← hK1] at HSH
    generalize K.kb = kb at *
    obtain ⟨d, hd, hdir, hdl⟩ := HND.out
    have HDD := Lib.hid hd
    have HDIR := Lib.hid hdir
    have HDL := Lib.hid hdl
    obtain ⟨L, hL⟩ : ∃ L, L = T.text 2 [] T.root := ⟨_, rfl⟩
    have HLL := Lib.hid hL
    rw [← hL] at HTX
    clear hd hdir hdl HND hL hTT hK1 hR3 hkp3 hft3 hrk hk HKR HFD HTT HWR
    go_wp2_with fail
    refine (HTX.out _ _ HSH.out).mono ?_
    rintro e w4 ⟨rfl, hb4⟩
    have HS4 := Lib.hid (HSH.out.next hb4)
    have HOP1 : Hid (Calls Tryz.prog 53 #[.pointer (some ⟨kb, 0, none⟩), .string fName, .int .i64 0] w4 fun e w' => SHOpen wc.heap.size wc T kb k K1 3 w4 e w') :=
      HS4.out.openRead (HE.out.below HS4.out.below) d HFO.out HDD.out HDIR.out 3 (by rw [HF1.out]; rfl)
    clear hb4 HSH
    go_wp2_with fail
    refine HOP1.out.mono ?_
    rintro e w5 ⟨rfl, b3, f3, hb3, hsh5⟩
    obtain ⟨K3, hK3⟩ : ∃ K3, K3 = K1.opened T 3 b3 ⟨f3, 0, 0, k⟩ := ⟨_, rfl⟩
    have HF3 : Hid (K3.fds = setFd (fds3 K.ib K.ob K.eb) 3 (some (.file b3))) := by rw [hK3, ← HF1.out]; rfl
    have HL3 : Hid (K3.fl b3 = some ⟨f3, 0, ((0 : Nat) : Int), k⟩) := by rw [hK3]; exact setFl_here _ _ _
    rw [← hK3] at hsh5
    have HS5 := Lib.hid hsh5
    have HOP2 : Hid (Calls Tryz.prog 54 #[.pointer (some ⟨kb, 0, none⟩), .int .i64 3] w5 fun e w' => SHDup wc.heap.size wc T kb K3 3 4 e w') :=
      HS5.out.dup 3 (by rw [HF3.out]; rfl) 4 (by rw [HF3.out]; rfl)
    clear hsh5 hK3 HOP1 HS4 HF1 hb3
    go_wp2_with fail
    refine HOP2.out.mono ?_
    rintro e w6 ⟨rfl, hsh6⟩
    obtain ⟨K4, hK4⟩ : ∃ K4, K4 = { K3 with fds := setFd K3.fds 4 (K3.fds 3) } := ⟨_, rfl⟩
    have HF4 : Hid (K4.fds = setFd (setFd (fds3 K.ib K.ob K.eb) 3 (some (.file b3))) 4 (some (.file b3))) := by
      show _ = _
      rw [hK4, show K3.fds = _ from HF3.out]
      rfl
    have HL4 : Hid (K4.fl b3 = some ⟨f3, 0, ((0 : Nat) : Int), k⟩) := by rw [hK4]; exact HL3.out
    rw [← hK4] at hsh6
    have HS6 := Lib.hid hsh6
    have HOP3 : Hid (Calls Tryz.prog 53 #[.pointer (some ⟨kb, 0, none⟩), .string fName, .int .i64 0] w6 fun e w' => SHOpen wc.heap.size wc T kb k K4 5 w6 e w') :=
      HS6.out.openRead (HE.out.below HS6.out.below) d HFO.out HDD.out HDIR.out 5 (by rw [HF4.out]; rfl)
    have HB36 : Hid (b3 < w6.heap.size) := lt_of_heap (HS6.out.rep.file b3 _ HL4.out).1
    clear hsh6 hK4 HOP2 HS5 HF3 HL3
    go_wp2_with fail
    refine HOP3.out.mono ?_
    rintro e w7 ⟨rfl, b5, f5, hb5, hsh7⟩
    have hb35 : b3 ≠ b5 := by have := HB36.out; omega
    obtain ⟨K5, hK5⟩ : ∃ K5, K5 = K4.opened T 5 b5 ⟨f5, 0, 0, k⟩ := ⟨_, rfl⟩
    have HF5 : Hid (K5.fds = setFd (setFd (setFd (fds3 K.ib K.ob K.eb) 3 (some (.file b3))) 4 (some (.file b3))) 5 (some (.file b5))) := by
      show _ = _
      rw [hK5, ← HF4.out]
      rfl
    have HL53 : Hid (K5.fl b3 = some ⟨f3, 0, ((0 : Nat) : Int), k⟩) := by rw [hK5]; exact (setFl_there _ _ hb35).trans HL4.out
    have HL55 : Hid (K5.fl b5 = some ⟨f5, 0, ((0 : Nat) : Int), k⟩) := by rw [hK5]; exact setFl_here _ _ _
    rw [← hK5] at hsh7
    have HS7 := Lib.hid hsh7
    have HNE := Lib.hid hb35
    obtain ⟨o1, ho1⟩ : ∃ o1, o1 = l.take nn := ⟨_, rfl⟩
    obtain ⟨o2, ho2⟩ : ∃ o2, o2 = readL l nn n := ⟨_, rfl⟩
    obtain ⟨qq, hqq⟩ : ∃ qq, qq = min n (l.length - nn) := ⟨_, rfl⟩
    have HN1 : Hid (o1.length = nn) := by have hnn := HNN.out; show _ = _; rw [ho1, List.length_take]; omega
    have HN2 : Hid (o2.length = qq) := by show _ = _; rw [ho2, readL_length, hqq]
    have HO1 := Lib.hid ho1
    have HO2 := Lib.hid ho2
    have HQQ := Lib.hid hqq
    have hqb : nn + n ≤ 2000 := by have hnn := HNN.out; omega
    clear ho1 ho2 hqq
    have HR1 : Hid (Calls Tryz.prog 55 #[.pointer (some ⟨kb, 0, none⟩), .int .i64 3, .int .i64 m] w7 fun e w' => SHRead wc.heap.size wc T kb K5 b3 f3 k 0 o1 w7 e w') := by
      have h := HS7.out.read 3 m (by decide) b3 f3 0 (by rw [HF5.out]; rfl) HL53.out (by decide) (by omega) d HDD.out (by rw [HDL.out]; omega)
      have e : readL d.data 0 m = o1 := by
        have hnn := HNN.out
        rw [HDL.out, HO1.out]
        unfold readL
        rw [List.drop_zero, List.take_eq_take_iff]
        omega
      rw [e] at h
      exact h
    clear hsh7 hK5 HS6 HF4 HL4 HB36 hb35 hb5
    go_wp2_with fail
    refine HR1.out.mono ?_
    rintro e w8 ⟨v8, rfl, hown8, hsh8, hk8, hf8⟩
    obtain ⟨K6, hK6⟩ : ∃ K6, K6 = { K5 with fl := setFl K5.fl b3 ⟨f3, 0, ((0 + o1.length : Nat) : Int), k⟩ } := ⟨_, rfl⟩
    have HF6 : Hid (K6.fds = setFd (setFd (setFd (fds3 K.ib K.ob K.eb) 3 (some (.file b3))) 4 (some (.file b3))) 5 (some (.file b5))) := by rw [hK6]; exact HF5.out
    have HL63 : Hid (K6.fl b3 = some ⟨f3, 0, (nn : Nat), k⟩) := by
      show _ = _
      have h := setFl_here K5.fl b3 ⟨f3, 0, ((0 + o1.length : Nat) : Int), k⟩
      rw [Nat.zero_add, HN1.out] at h
      rw [hK6, Nat.zero_add, HN1.out]
      exact h
    have HL65 : Hid (K6.fl b5 = some ⟨f5, 0, ((0 : Nat) : Int), k⟩) := by rw [hK6]; exact (setFl_there _ _ (Ne.symm HNE.out)).trans HL55.out
    rw [← hK6] at hsh8 hf8
    rw [HN1.out] at hown8
    obtain ⟨va8, vc8, rfl⟩ := owns_form hown8
    have HS8 := Lib.hid hsh8
    have HO8 := Lib.hid hown8
    have HZ9 : Hid (w7.heap.size ≤ w8.heap.size) := hk8.size
    have HT8 : Hid (∀ x, K6.foot x → x < w7.heap.size) := fun x hx => HS7.out.rep.lt (hf8 x hx)
    have HR2 : Hid (Calls Tryz.prog 55 #[.pointer (some ⟨kb, 0, none⟩), .int .i64 4, .int .i64 n] w8 fun e w' => SHRead wc.heap.size wc T kb K6 b3 f3 k nn o2 w8 e w') := by
      have h := HS8.out.read 4 n (by decide) b3 f3 nn (by rw [HF6.out]; rfl) HL63.out (by omega) (by omega) d HDD.out (by rw [HDL.out]; omega)
      rw [HDL.out, ← HO2.out] at h
      exact h
    clear hsh8 hK6 hown8 hk8 hf8 HR1 HF5 HL53 HL55
    go_wp2_with fail
    refine HR2.out.mono ?_
    rintro e w9 ⟨v9, rfl, hown9, hsh9, hk9, hf9⟩
    obtain ⟨K7, hK7⟩ : ∃ K7, K7 = { K6 with fl := setFl K6.fl b3 ⟨f3, 0, ((nn + o2.length : Nat) : Int), k⟩ } := ⟨_, rfl⟩
    have HF7 : Hid (K7.fds = setFd (setFd (setFd (fds3 K.ib K.ob K.eb) 3 (some (.file b3))) 4 (some (.file b3))) 5 (some (.file b5))) := by rw [hK7]; exact HF6.out
    have HL75 : Hid (K7.fl b5 = some ⟨f5, 0, ((0 : Nat) : Int), k⟩) := by rw [hK7]; exact (setFl_there _ _ (Ne.symm HNE.out)).trans HL65.out
    rw [← hK7] at hsh9 hf9
    rw [HN2.out] at hown9
    obtain ⟨va9, vc9, rfl⟩ := owns_form hown9
    have HS9 := Lib.hid hsh9
    have HO89 : Hid (w9.ownsRow w7.heap.size 5 1 (.slice va8 nn vc8) nn (u8s o1)) := ownsRow_kept HO8.out hk9 (fun r hr hx => by
      have q1 := (HO8.out.lt r hr).1
      have q2 := HT8.out r hx
      omega)
    have HO9 := Lib.hid hown9
    have HT9 : Hid (∀ x, K7.foot x → x < w7.heap.size) := fun x hx => HT8.out x (hf9 x hx)
    have HR3 : Hid (Calls Tryz.prog 55 #[.pointer (some ⟨kb, 0, none⟩), .int .i64 5, .int .i64 m] w9 fun e w' => SHRead wc.heap.size wc T kb K7 b5 f5 k 0 o1 w9 e w') := by
      have h := HS9.out.read 5 m (by decide) b5 f5 0 (by rw [HF7.out]; rfl) HL75.out (by decide) (by omega) d HDD.out (by rw [HDL.out]; omega)
      have e : readL d.data 0 m = o1 := by
        have hnn := HNN.out
        rw [HDL.out, HO1.out]
        unfold readL
        rw [List.drop_zero, List.take_eq_take_iff]
        omega
      rw [e] at h
      exact h
    clear hsh9 hK7 hown9 hk9 hf9 HR2 HF6 HL63 HL65 HT8 HO8 HS8
    go_wp2_with fail
    refine HR3.out.mono ?_
    rintro e w10 ⟨v10, rfl, hown10, hsh10, hk10, hf10⟩
    obtain ⟨K8, hK8⟩ : ∃ K8, K8 = { K7 with fl := setFl K7.fl b5 ⟨f5, 0, ((0 + o1.length : Nat) : Int), k⟩ } := ⟨_, rfl⟩
    have HF8 : Hid (K8.fds = setFd (setFd (setFd (fds3 K.ib K.ob K.eb) 3 (some (.file b3))) 4 (some (.file b3))) 5 (some (.file b5))) := by rw [hK8]; exact HF7.out
    rw [← hK8] at hsh10
    rw [HN1.out] at hown10
    obtain ⟨va10, vc10, rfl⟩ := owns_form hown10
    have HS10 := Lib.hid hsh10
    have HP1 : Hid (Src w10 (.slice va8 nn vc8) o1) := by
      have h := Src.of_owns (l := o1) (v := .slice va8 nn vc8) (base := w7.heap.size) (w := w10) (by rw [HN1.out]; exact ownsRow_kept HO89.out hk10 (fun r hr hx => by
        have q1 := (HO89.out.lt r hr).1
        have q2 := HT9.out r hx
        omega))
      exact h
    have HP2 : Hid (Src w10 (.slice va9 qq vc9) o2) := by
      have h := Src.of_owns (l := o2) (v := .slice va9 qq vc9) (base := w8.heap.size) (w := w10) (by rw [HN2.out]; exact ownsRow_kept HO9.out hk10 (fun r hr hx => by
        have q1 := (HO9.out.lt r hr).1
        have q2 := HT9.out r hx
        have q3 := HZ9.out
        omega))
      exact h
    have HP3 : Hid (Src w10 (.slice va10 nn vc10) o1) := Src.of_owns (l := o1) (by rw [HN1.out]; exact hown10)
    have HDS := Lib.hid (src_up HS.out HS10.out.below)
    clear hsh10 hK8 hown10 hk10 hf10 HR3 HF7 HL75 HT9 HO89 HO9 HZ9 HS9
    have hnn := HNN.out
    have hqq := HQQ.out
    have ho1 := HO1.out
    have ho2 := HO2.out
    have hmi : min (m : Int) (l.length : Int) = (nn : Int) := by omega
    have hnl : nn ≤ l.length := by omega
    have hql : nn + qq ≤ l.length := by omega
    have hmj : min (l.length : Int) ((nn : Int) + n) = ((nn + qq : Nat) : Int) := by omega
    have hdc := (src_first HDS.out hnl).2
    have hdn : (nn : Int) ≤ dc := by omega
    have hdq : ((nn + qq : Nat) : Int) ≤ dc := by omega
    have hnq : (nn : Int) ≤ ((nn + qq : Nat) : Int) := by omega
    have HD1 : Hid (Src w10 (.slice da nn dc) o1) := by rw [ho1]; exact (src_first HDS.out hnl).1
    have HD2 : Hid (Src w10 (.slice (if dc = nn then da else da.map (·.add nn)) qq (dc - nn)) o2) := by
      have h := src_mid HDS.out (p := nn) (m := qq) hql
      have e : (l.drop nn).take qq = o2 := by
        rw [ho2, hqq]
        unfold readL
        rw [List.take_eq_take_iff, List.length_drop]
        omega
      rw [e] at h
      exact h
    have HQ1 := Lib.hid (bytes_same HN1.out va8 vc8 da dc w10 HP1.out HD1.out)
    have HQ2 := Lib.hid (bytes_same HN1.out va10 vc10 va8 vc8 w10 HP3.out HP1.out)
    have HQ3 := Lib.hid (bytes_same HN2.out va9 vc9 _ _ w10 HP2.out HD2.out)
    clear ho1 ho2 hqq HD1 HD2 HP1 HP2 HP3 HDS hnn HO1 HO2 HQQ HNN
    go_upto_region 18 with fail
    go_cut [121] from 96 (fun s121 wx => wx = w10 ∧ s121 = .bool false)
    case first =>
      by_cases hdcn : dc = nn
      · subst hdcn
        rw [if_pos rfl, Nat.sub_self] at HQ3
        go_wp2_with fail
        refine HQ1.out.mono ?_
        rintro e w11 ⟨rfl, rfl⟩
        go_wp2_with fail
        refine HQ2.out.mono ?_
        rintro e w11 ⟨rfl, rfl⟩
        go_wp2_with fail
        refine HQ3.out.mono ?_
        rintro e w11 ⟨rfl, rfl⟩
        go_wp2_with fail
        go_meet
        case rel => exact ⟨rfl, rfl⟩
      · rw [if_neg hdcn] at HQ3
        go_wp2_with fail
        refine HQ1.out.mono ?_
        rintro e w11 ⟨rfl, rfl⟩
        go_wp2_with fail
        refine HQ2.out.mono ?_
        rintro e w11 ⟨rfl, rfl⟩
        go_wp2_with fail
        refine HQ3.out.mono ?_
        rintro e w11 ⟨rfl, rfl⟩
        go_wp2_with fail
        go_meet
        case rel => exact ⟨rfl, rfl⟩
    case rest =>
      obtain ⟨hwx, hs121⟩ := hcut
      subst hwx hs121
      clear HQ1 HQ2 HQ3
      have HC1 := Lib.hid (HS10.out.close 3 (by rw [HF8.out]; rfl))
      go_wp2_with fail
      refine HC1.out.mono ?_
      rintro e w11 ⟨rfl, hsh11⟩
      obtain ⟨K9, hK9⟩ : ∃ K9, K9 = { K8 with fds := setFd K8.fds 3 none } := ⟨_, rfl⟩
      have HF9 : Hid (K9.fds = setFd (setFd (setFd (setFd (fds3 K.ib K.ob K.eb) 3 (some (.file b3))) 4 (some (.file b3))) 5 (some (.file b5))) 3 none) := by
        show _ = _
        rw [hK9, ← HF8.out]
      rw [← hK9] at hsh11
      have HS11 := Lib.hid hsh11
      have HC2 := Lib.hid (hsh11.close 4 (by rw [HF9.out]; rfl))
      clear hsh11 hK9 HC1 HS10 HF8
      go_wp2_with fail
      refine HC2.out.mono ?_
      rintro e w12 ⟨rfl, hsh12⟩
      obtain ⟨K10, hK10⟩ : ∃ K10, K10 = { K9 with fds := setFd K9.fds 4 none } := ⟨_, rfl⟩
      have HF10 : Hid (K10.fds = setFd (setFd (setFd (setFd (setFd (fds3 K.ib K.ob K.eb) 3 (some (.file b3))) 4 (some (.file b3))) 5 (some (.file b5))) 3 none) 4 none) := by
        show _ = _
        rw [hK10, ← HF9.out]
      rw [← hK10] at hsh12
      have HS12 := Lib.hid hsh12
      have HC3 := Lib.hid (hsh12.close 5 (by rw [HF10.out]; rfl))
      clear hsh12 hK10 HC2 HS11 HF9
      go_wp2_with fail
      refine HC3.out.mono ?_
      rintro e w13 ⟨rfl, hsh13⟩
      obtain ⟨K11, hK11⟩ : ∃ K11, K11 = { K10 with fds := setFd K10.fds 5 none } := ⟨_, rfl⟩
      have HF11 : Hid (K11.fds = setFd (setFd (setFd (setFd (setFd (setFd (fds3 K.ib K.ob K.eb) 3 (some (.file b3))) 4 (some (.file b3))) 5 (some (.file b5))) 3 none) 4 none) 5 none) := by
        show _ = _
        rw [hK11, ← HF10.out]
      rw [← hK11] at hsh13
      have HS13 := Lib.hid hsh13
      have HU : Hid (Calls Tryz.prog 58 #[.pointer (some ⟨kb, 0, none⟩)] w13 fun e w' => UsedOk w13 [0, 1, 2] e w') := by
        have h := kern_Used hsh13.rep.kern
        rw [hsh13.hkb] at h
        have e : usedTo K11.fds 16 = [0, 1, 2] := by rw [HF11.out]; rfl
        rw [e] at h
        exact h
      clear hsh13 hK11 HC3 HS12 HF10
      go_wp2_with fail
      refine HU.out.mono ?_
      intro e w14 hp
      obtain ⟨v, rfl, hown14, hb14⟩ := hp
      obtain ⟨va, vc, rfl⟩ := owns_form hown14
      have HO14 := Lib.hid hown14
      have HS14 := Lib.hid (HS13.out.next hb14)
      clear hown14 hb14 HU HS13 HF11
      go_wp2_with fail
      have HI : Hid (Calls Tryz.prog 57 #[.slice va 3 vc, .slice (some ⟨w14.heap.size, 0, none⟩) 3 3] (w14.alloc (.cells #[.int .i64 0, .int .i64 1, .int .i64 2] 3)) fun e w' =>
          IPost (w14.alloc (.cells #[.int .i64 0, .int .i64 1, .int .i64 2] 3)) true e w') := by
        refine ints_any _ _ [0, 1, 2] [0, 1, 2] _ ?_ (.inr ⟨⟨w14.heap.size, 0, none⟩, 3, rfl, fun j hj => ?_⟩) (by decide) (by decide)
        · exact (ISrc.of_owns HO14.out).kept (Kept.of_below (below_alloc _ _) (fun _ => False)) (fun _ _ h => h)
        · have hh := heap_alloc_new w14 (.cells #[.int .i64 0, .int .i64 1, .int .i64 2] 3)
          match j, hj with
          | 0, _ => exact cell_of hh rfl
          | 1, _ => exact cell_of hh rfl
          | 2, _ => exact cell_of hh rfl
      have HS15 := Lib.hid (HS14.out.next (below_alloc w14 (.cells #[.int .i64 0, .int .i64 1, .int .i64 2] 3)))
      refine HI.out.mono ?_
      rintro e w15 ⟨rfl, hb15⟩
      have HS16 := Lib.hid (HS15.out.next hb15)
      clear hb15 HI HS15 HS14 HO14
      go_wp2_with fail
      refine (HTX.out _ _ HS16.out).mono ?_
      rintro e w16 ⟨rfl, hb16⟩
      have HS17 := Lib.hid (HS16.out.next hb16)
      have HAW := Lib.hid (awake_any w16 (HE.out.below HS17.out.below))
      clear hb16 HS16
      go_wp2_with fail
      refine HAW.out.mono ?_
      rintro e w17 ⟨rfl, hb17⟩
      have HB17 := Lib.hid (below_trans HS17.out.below hb17)
      clear hb17
      go_wp2_with fail
      go_ret
      exact ⟨rfl, HB17.out⟩
end Go.Proofs.YtiejfbkbjahcgaaGreatDoor
