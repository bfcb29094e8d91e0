/-
 THE ROWS OF A TREE'S TEXT: its paths, in order. No program in sight.
 BOTH TREES IN MEMORY, alike and apart: behind each call of the laws they are so again.
 The law's made: the program's tree and the document's, behind some calls.
 THE PROGRAM's TREE BEHIND THE LAWS' CALLS, plainly: files at paths, small numbers.
-/
import Derived.Test.YteeeaeiafdgpkaaGreatDoorSimB
import Derived.Test.YteeeaeiafdgpkaaGreatDoorTextA
import Derived.Test.YteeeaeiafdgpkaaGreatDoorStepA
import Derived.Test.YteeeaeiafdgpkaaGreatDoorArgO
import Derived.Test.YteeeaeiafdgpkaaGreatDoorNewA
import Derived.Test.YteeeaeiafdgpkaaGreatDoorRefC
namespace Go.Proofs.YteeeaeiafdgpkaaGreatDoor
open Go Go.RowKit
section
def Tr.pre (T : Tr) : Nat → List UInt8 → Nat → List Ent
 | 0, _, _ => []
 | f + 1, path, n => match T.nd n with
  | none => []
  | some d => (path, n) :: (zan d.names).flatMap fun s => T.pre f (path ++ [47] ++ s) ((look d.names ⟨s.toArray⟩).getD 0)
theorem Tr.pre_succ {T : Tr} {f n : Nat} {d : Nd} (h : T.nd n = some d) (path : List UInt8) :
  T.pre (f + 1) path n = (path, n) :: (zan d.names).flatMap fun s => T.pre f (path ++ [47] ++ s) ((look d.names ⟨s.toArray⟩).getD 0) := by
 rw [Tr.pre, h]
def lineAt (T : Tr) (e : Ent) : List UInt8 := match T.nd e.2 with
 | none => []
 | some d => zdh e.1 d
theorem Tr.text_pre (T : Tr) : ∀ (f : Nat) (path : List UInt8) (n : Nat), T.text f path n = (T.pre f path n).flatMap (lineAt T)
 | 0, _, _ => rfl
 | f + 1, path, n => by
  cases hn : T.nd n with
  | none =>
   rw [Tr.text, Tr.pre, hn]
   rfl
  | some d =>
   rw [Tr.text_succ hn, Tr.pre_succ hn, List.flatMap_cons, List.flatMap_assoc]
   congr 1
   ·show _ = match T.nd n with | none => [] | some d => zdh path d
    rw [hn]
   ·congr 1
    funext s
    exact Tr.text_pre T f _ _
theorem zde {names : List (ByteArray × Nat)} {s : List UInt8} : s ∈ zan names ↔ ∃ p ∈ names, bl p.1 = s := by
 unfold zan
 rw [(List.mergeSort_perm _ _).mem_iff, List.mem_map]
 exact Iff.rfl
theorem mk_bl (x : ByteArray) : (⟨(bl x).toArray⟩ : ByteArray) = x := by unfold bl; simp
theorem list_lt_of {x y : List UInt8} : x ≤ y → x ≠ y → x < y := by
 intro h hne
 induction x generalizing y with
 | nil => cases y with
  | nil => exact absurd rfl hne
  | cons b y => exact List.nil_lt_cons b y
 | cons a x ih => cases y with
  | nil => exact absurd (List.nil_lt_cons a x) h
  | cons b y =>
   rw [List.cons_lt_cons_iff]
   by_cases hab : a = b
   ·subst hab
    refine .inr ⟨rfl, ih (fun hl => h (List.cons_lt_cons_iff.2 (.inr ⟨rfl, hl⟩))) (fun e => hne (by rw [e]))⟩
   ·left
    have h1 : ¬ b < a := fun hl => h (List.cons_lt_cons_iff.2 (.inl hl))
    have h2 : ¬ a.toNat = b.toNat := fun e => hab (UInt8.toNat_inj.1 e)
    rw [UInt8.lt_iff_toNat_lt] at *
    omega
theorem sortedNames_srt {names : List (ByteArray × Nat)} (hk : (names.map (·.1)).Nodup) : (zan names).Pairwise (· < ·) := by
 have h1 : (zan names).Pairwise (fun a b => decide (a ≤ b) = true) := by
  unfold zan
  refine List.pairwise_mergeSort ?_ ?_ _
  ·intro a b c hab hbc
   exact decide_eq_true (List.le_trans (of_decide_eq_true hab) (of_decide_eq_true hbc))
  ·intro a b
   have := List.le_total a b
   rcases this with h | h
   ·rw [decide_eq_true h]; rfl
   ·rw [decide_eq_true h, Bool.or_true]
 have h2 : (zan names).Nodup := by
  unfold zan
  refine (List.mergeSort_perm _ _).nodup_iff.2 ?_
  have : names.map nameL = (names.map (·.1)).map bl := by rw [List.map_map]; rfl
  rw [this]
  exact List.Pairwise.map _ (fun a b hab he => hab (bl_inj he)) hk
 exact (h1.and h2).imp fun ⟨a, b⟩ => list_lt_of (of_decide_eq_true a) b
theorem TW.dir_of_names {T : Tr} (h : TW T) {n : Nat} {d : Nd} (hn : T.nd n = some d) {p : ByteArray × Nat} (hp : p ∈ d.names) : d.dir = true := by
 cases hd : d.dir with
 | true => rfl
 | false =>
  rw [h.file n d hn hd] at hp
  cases hp
theorem Tr.wk_cons {T : Tr} (h : TW T) {n : Nat} {d : Nd} (hn : T.nd n = some d) {p : ByteArray × Nat} (hp : p ∈ d.names) (l : List ByteArray) : T.wk n (p.1 :: l) = T.wk p.2 l := by
 rw [Tr.wk, Tr.hop_dir hn (h.dir_of_names hn hp), zdg (h.keys n d hn) hp]
 rfl
theorem joinB_cons (x : ByteArray) (l : List ByteArray) : zal (x :: l) = [47] ++ bl x ++ zal l := by
 unfold zal
 rw [List.map_cons, zca]
 simp
theorem Tr.mem_pre {T : Tr} (hw : TW T) : ∀ (f : Nat) (path : List UInt8) (n : Nat), T.deep f n → ∀ (q : List UInt8) (k : Nat), (q, k) ∈ T.pre f path n ↔ ∃ l, T.wk n l = some k ∧ q = path ++ zal l
 | 0, _, _, hd, _, _ => absurd hd id
 | f + 1, path, n, hd, q, k => by
  obtain ⟨d, hn, hkids⟩ := hd
  rw [Tr.pre_succ hn, List.mem_cons, List.mem_flatMap]
  constructor
  ·rintro (h | ⟨s, hs, h⟩)
   ·simp only [Prod.mk.injEq] at h
    obtain ⟨rfl, rfl⟩ := h
    exact ⟨[], rfl, by rw [zfr, List.append_nil]⟩
   ·obtain ⟨p, hp, rfl⟩ := zde.1 hs
    rw [mk_bl, zdg (hw.keys n d hn) hp] at h
    obtain ⟨l, h1, h2⟩ := (Tr.mem_pre hw f _ p.2 (hkids p hp) q k).1 h
    refine ⟨p.1 :: l, (Tr.wk_cons hw hn hp l).trans h1, ?_⟩
    rw [h2, joinB_cons]
    simp
  ·rintro ⟨l, h1, h2⟩
   cases l with
   | nil =>
    left
    rw [zfr, List.append_nil] at h2
    rw [h2, Option.some.inj h1]
   | cons x l =>
    right
    rw [Tr.wk] at h1
    cases hx : T.hop n x with
    | none => rw [hx] at h1; cases h1
    | some k' =>
     rw [hx] at h1
     obtain ⟨d', hn', hdir, hlk⟩ := Tr.hop_some hx
     rw [hn] at hn'
     obtain rfl := Option.some.inj hn'
     have hp := zdp hlk
     refine ⟨bl x, zde.2 ⟨_, hp, rfl⟩, ?_⟩
     rw [mk_bl, hlk]
     refine (Tr.mem_pre hw f _ k' (hkids _ hp) q k).2 ⟨l, h1, ?_⟩
     rw [h2, joinB_cons]
     simp
theorem Tr.pre_srt {T : Tr} (hw : TW T) : ∀ (f : Nat) (path : List UInt8) (n : Nat), T.deep f n → Srt (T.pre f path n)
 | 0, _, _, hd => absurd hd id
 | f + 1, path, n, hd => by
  have hd0 := hd
  obtain ⟨d, hn, hkids⟩ := hd
  have hsub : ∀ s ∈ zan d.names, ∃ p ∈ d.names, bl p.1 = s ∧ (look d.names ⟨s.toArray⟩).getD 0 = p.2 := by
   intro s hs
   obtain ⟨p, hp, rfl⟩ := zde.1 hs
   refine ⟨p, hp, rfl, ?_⟩
   rw [mk_bl, zdg (hw.keys n d hn) hp]
   rfl
  have hform : ∀ s ∈ zan d.names, ∀ e ∈ T.pre f (path ++ [47] ++ s) ((look d.names ⟨s.toArray⟩).getD 0), ∃ u, (u = [] ∨ ∃ z, u = 47 :: z) ∧ e.1 = path ++ [47] ++ (s ++ u) := by
   intro s hs e he
   obtain ⟨p, hp, hb, hl⟩ := hsub s hs
   rw [hl] at he
   obtain ⟨l, h1, h2⟩ := (Tr.mem_pre hw f _ p.2 (hkids p hp) e.1 e.2).1 he
   exact ⟨zal l, joinL_form _, by rw [h2]; simp⟩
  rw [Tr.pre_succ hn]
  refine List.pairwise_cons.2 ⟨fun e he => ?_, ?_⟩
  ·obtain ⟨s, hs, he⟩ := List.mem_flatMap.1 he
   obtain ⟨u, _, h2⟩ := hform s hs e he
   show bef path e.1 = true
   rw [h2, List.append_assoc]
   exact bef_more path 47 (s ++ u)
  ·refine List.pairwise_flatMap.2 ⟨fun s hs => ?_, ?_⟩
   ·obtain ⟨p, hp, hb, hl⟩ := hsub s hs
    rw [hl]
    exact Tr.pre_srt hw f _ p.2 (hkids p hp)
   ·refine List.Pairwise.imp_of_mem ?_ (sortedNames_srt (hw.keys n d hn))
    intro s t hs ht hst e he g hg
    obtain ⟨u, hu, h1⟩ := hform s hs e he
    obtain ⟨v, hv, h2⟩ := hform t ht g hg
    obtain ⟨p, hp, hb, _⟩ := hsub s hs
    obtain ⟨q, hq, hc, _⟩ := hsub t ht
    show bef e.1 g.1 = true
    rw [h1, h2, bef_append]
    exact bef_names hst (hb ▸ (hw.part n d p.1 p.2 hn hp).1.2) (hc ▸ (hw.part n d q.1 q.2 hn hq).1.2) hu
theorem Tr.deep_of {T : Tr} (hw : TW T) : ∀ (f n : Nat) (d : Nd), T.nd n = some d → (∀ l k, T.wk n l = some k → l.length < f) → T.deep f n
 | 0, n, d, _, h => absurd (h [] n rfl) (by simp)
 | f + 1, n, d, hn, h => ⟨d, hn, fun p hp => by
  obtain ⟨d', hd'⟩ := hw.kids n d p.1 p.2 hn hp
  refine Tr.deep_of hw f p.2 d' hd' fun l k hl => ?_
  have := h (p.1 :: l) k ((Tr.wk_cons hw hn hp l).trans hl)
  simp at this
  exact this⟩
theorem zfu : ∀ (k u : Nat), u < 10 ^ (k + 1) → (Lib.decDigits u).length ≤ k + 1
 | 0, u, h => by
  rw [Lib.decDigits_one (by simpa using h)]
  simp
 | k + 1, u, h => by
  by_cases hu : u < 10
  ·rw [Lib.decDigits_one hu]; simp
  ·rw [Lib.decDigits, dif_neg hu, List.length_append]
   have h1 : u / 10 < 10 ^ (k + 1) := by
    rw [Nat.pow_succ] at h
    omega
   have := zfu k (u / 10) h1
   simp only [List.length_cons, List.length_nil]
   omega
theorem dec_len {n : Int} (h : n ≤ 4611686018427387904) : (dec n).length ≤ 20 := by
 unfold dec
 refine zfu 19 _ ?_
 have h1 : n.toNat ≤ 4611686018427387904 := by omega
 have h2 : (4611686018427387904 : Nat) < 10 ^ (19 + 1) := by decide
 omega
theorem lineOf_len (path : List UInt8) {d : Nd} (h1 : d.links ≤ 4611686018427387904) (h2 : d.tick ≤ 4611686018427387904) (h3 : d.data.length ≤ 140737488355328) : (zdh path d).length ≤ path.length + 80 := by
 have q1 := dec_len h1
 have q2 := dec_len h2
 have q3 := dec_len (n := (d.data.length : Int)) (by omega)
 have q4 : (if path = [] then ([47] : List UInt8) else []).length ≤ 1 := by split <;> simp
 have q5 : (if d.dir = true then ([32, 100, 32] : List UInt8) else [32, 102, 32] ++ dec d.data.length ++ [32] ++ dec d.links ++ [32]).length ≤ 50 := by
  split
  ·simp
  ·simp only [List.length_append, List.length_cons, List.length_nil]; omega
 unfold zdh
 simp only [List.length_append, List.length_cons, List.length_nil]
 omega
end
section
def Apart (T : Tr) (R : RT) : Prop := ∀ b n d n' d', T.nd n = some d → R.nd n' = some d' → d.bv.ownBlock = some b → d'.dv.ownBlock = some b → False
structure Both (B : Nat) (w : World) (T : Tr) (R : RT) (f : Nat → Nat) (n : Nat) : Prop where
 rep : Rep B w T
 rrep : RRep B w R
 sim : Sim T R f
 ti : TI T
 rn : RN R n
 apart : Apart T R
 base : B ≤ w.heap.size
 tg : TG T
theorem Both.num {B n : Nat} {w : World} {T : Tr} {R : RT} {f : Nat → Nat} (h : Both B w T R f n) : TNum T := h.sim.tnum h.rn.rb
theorem newTr_ti (tb root mb : Nat) : TI (zco tb root mb) ∧ ∀ l k, (zco tb root mb).at l = some k → l = [] := by
 have hs : ∀ n d, (zco tb root mb).nd n = some d → n = root ∧ d.names = [] ∧ d.dir = true ∧ d.links = 0 ∧ d.data = [] := fun n d h => by
  obtain ⟨h1, h2⟩ := zch h
  subst h2
  exact ⟨h1, rfl, rfl, rfl, rfl⟩
 have hat : ∀ l k, (zco tb root mb).at l = some k → l = [] := by
  refine zd5 ?_ ?_
  ·intro k _; rfl
  ·intro l x ih k h
   rw [Tr.at_snoc] at h
   cases hl : (zco tb root mb).at l with
   | none => rw [hl] at h; cases h
   | some n =>
    rw [hl] at h
    obtain ⟨d, h1, _, h3⟩ := Tr.hop_some h
    rw [(hs n d h1).2.1] at h3
    cases h3
 have htw : TW (zco tb root mb) := by
  refine ⟨⟨_, zes tb root mb, rfl⟩, fun n d s k h1 h2 => ?_, fun n d h1 h2 => ?_, fun n d s k h1 h2 => ?_, fun n d h1 => ?_, fun l m k d h1 h2 _ _ => ?_⟩
  ·rw [(hs n d h1).2.1] at h2; cases h2
  ·exact (hs n d h1).2.1
  ·rw [(hs n d h1).2.1] at h2; cases h2
  ·rw [(hs n d h1).2.1]; exact List.nodup_nil
  ·rw [hat l k h1, hat m k h2]
 exact ⟨⟨htw, fun n d h1 _ => ⟨⟨[], by rw [(hs n d h1).1]; rfl⟩, (hs n d h1).2.2.2.1⟩, fun n d h1 => by rw [(hs n d h1).2.2.2.2]; exact Nat.zero_le _, fun n d h1 => by
  obtain ⟨_, h2⟩ := zch h1
  subst h2
  exact ⟨Int.le_refl _, Int.le_refl _, Int.le_refl _⟩⟩, hat⟩
theorem both_new {B : Nat} {w : World} {tb root mb : Nat} {R : RT} {i : Nat} (hT : Rep B w (zco tb root mb)) (hR : RRep B w R) (hL : R.L = [([], i)]) (hnow : R.now = 0) (hi : R.nd i = some (zbt true)) (ho : ∀ n, n ≠ i → R.nd n = none) (hB : B ≤ w.heap.size) :
  Both B w (zco tb root mb) R (fun _ => i) 0 := by
 obtain ⟨hti, hat⟩ := newTr_ti tb root mb
 have hs : ∀ n d, (zco tb root mb).nd n = some d → n = root ∧ d = { dir := true, bv := .slice none 0 0, data := [], names := [], mb := mb, links := 0, tick := 0 } := fun n d h => zch h
 have hR' : ∀ n d, R.nd n = some d → n = i ∧ d = zbt true := fun n d h => by
  by_cases e : n = i
  ·subst e; rw [hi] at h; cases h; exact ⟨rfl, rfl⟩
  ·rw [ho n e] at h; cases h
 refine ⟨hT, hR, ⟨fun l hl => ?_, fun e he => ?_, ?_, fun n d hn => ?_, fun n m d e hn hm _ => ?_, hnow, fun n d hn hd => ?_, ?_⟩, hti, ⟨⟨?_, fun e he => ?_, ?_, ?_, ?_⟩, ?_, ?_, fun m d hm => ?_⟩, fun b n d n' d' hn _ hv _ => ?_, hB, fun n d s k hn hx => by rw [(hs n d hn).2] at hx; cases hx⟩
 ·cases ha : (zco tb root mb).at l with
  | some k =>
   obtain rfl := hat l k ha
   rw [hL]
   rfl
  | none =>
   rw [hL]
   show (if ([] : List UInt8) = zal l then some i else none) = none
   rcases zb3 l with rfl | ⟨dp, nm, rfl⟩
   ·cases ha
   ·refine if_neg (fun e => ?_)
    have e2 : zal (dp ++ [nm]) = zal dp ++ 47 :: bl nm := by
     show zc4 ((dp ++ [nm]).map bl) = zc4 (dp.map bl) ++ 47 :: bl nm
     rw [List.map_append, List.map_singleton, zdx]
    rw [e2] at e
    have := congrArg List.length e
    simp at this
 ·rw [hL] at he
  obtain rfl : e = ([], i) := by simpa using he
  exact ⟨[], Pts.nil, rfl⟩
 ·rw [hL]; exact List.pairwise_singleton ..
 ·obtain ⟨_, rfl⟩ := hs n d hn
  exact ⟨_, hi, rfl, rfl, rfl⟩
 ·rw [(hs n d hn).1, (hs m e hm).1]
 ·obtain ⟨_, rfl⟩ := hs n d hn
  cases hd
 ·rw [hL]; rfl
 ·rw [hL]; simp
 ·rw [hL] at he
  obtain rfl : e = ([], i) := by simpa using he
  simp
 ·rw [hL]; simp [zaw]
 ·rw [hnow]; decide
 ·rw [hnow]; decide
 ·rw [hL]; simp
 ·rw [hnow]; decide
 ·obtain ⟨_, rfl⟩ := hR' m d hm
  exact Nat.zero_le _
 ·obtain ⟨_, rfl⟩ := hs n d hn
  cases hv
theorem Both.deep {B n : Nat} {w : World} {T : Tr} {R : RT} {f : Nat → Nat} (h : Both B w T R f n) : T.deep 50001 T.root := by
 obtain ⟨d, hd, _⟩ := h.ti.tw.root
 refine Tr.deep_of h.ti.tw 50001 T.root d hd (fun l k hl => ?_)
 have hp : Pts l := h.ti.tw.pts hl
 have he := h.sim.leads l hp
 rw [show T.at l = some k from hl] at he
 have h1 := h.rn.rb.paths _ (zcf he)
 have h2 := joinB_parts l hp
 have h1 : (zal l).length ≤ 100000 := h1
 omega
def Tr.txt (T : Tr) : List UInt8 := T.text 50001 [] T.root
theorem Both.pre {B n : Nat} {w : World} {T : Tr} {R : RT} {f : Nat → Nat} (h : Both B w T R f n) : (T.pre 50001 [] T.root).map (fun e => (e.1, f e.2)) = R.L := by
 refine srt_unique ?_ h.sim.srt (fun e => ?_)
 ·have := Tr.pre_srt h.ti.tw 50001 [] T.root h.deep
  exact List.pairwise_map.2 this
 ·rw [List.mem_map]
  constructor
  ·rintro ⟨⟨q, k⟩, hm, rfl⟩
   obtain ⟨l, hl, rfl⟩ := (Tr.mem_pre h.ti.tw 50001 [] T.root h.deep q k).1 hm
   have he := h.sim.leads l (h.ti.tw.pts hl)
   rw [show T.at l = some k from hl] at he
   exact zcf he
  ·intro he
   obtain ⟨l, k, hp, h1, h2, h3⟩ := h.sim.entry he
   refine ⟨(zal l, k), (Tr.mem_pre h.ti.tw 50001 [] T.root h.deep _ k).2 ⟨l, h2, rfl⟩, ?_⟩
   rw [← h1, ← h3]
theorem Both.txok {B n : Nat} {w : World} {T : Tr} {R : RT} {f : Nat → Nat} (h : Both B w T R f n) (hsm : n ≤ 100000) : TxOk T := by
 intro n d hn
 have hN := h.num
 obtain ⟨t0, t1, t2⟩ := h.ti.num n d hn
 have hc := hN.clk1
 have hl : 0 ≤ d.links ∧ d.links ≤ 4611686018427387904 := by
  cases hd : d.dir with
  | true => rw [(h.ti.dirs n d hn hd).2]; decide
  | false =>
   have := hN.lk0 n d hn hd
   have := hN.lk1 n d hn hd
   omega
 have hdl := h.ti.data n d hn
 have hnow := h.rn.now
 have hns := h.sim.now
 refine ⟨hl.1, hl.2, t0, by omega, by omega, by omega, fun p hp => ?_⟩
 have := (h.ti.tw.part n d p.1 p.2 hn hp).2
 omega
theorem Both.txt_len {B n : Nat} {w : World} {T : Tr} {R : RT} {f : Nat → Nat} (h : Both B w T R f n) (hn : n ≤ 100000) : T.txt.length ≤ 140737488355328 := by
 unfold Tr.txt
 rw [Tr.text_pre]
 have hp := h.pre
 have h1 : ∀ e ∈ T.pre 50001 [] T.root, e.1.length ≤ 100000 := fun e he => by
  refine h.rn.rb.paths (e.1, f e.2) ?_
  rw [← hp]
  exact List.mem_map.2 ⟨e, he, rfl⟩
 have h2 : (T.pre 50001 [] T.root).length ≤ 90000 := by
  have := congrArg List.length hp
  rw [List.length_map] at this
  rw [this]
  exact h.rn.rb.len
 have h3 : ∀ (l : List Ent), (∀ e ∈ l, e.1.length ≤ 100000) → (l.flatMap (lineAt T)).length ≤ l.length * 100080 := by
  intro l
  induction l with
  | nil => intro _; simp
  | cons e l ih =>
   intro hl
   rw [List.flatMap_cons, List.length_append, List.length_cons]
   have a1 := ih (fun e he => hl e (List.mem_cons_of_mem _ he))
   have a2 : (lineAt T e).length ≤ 100080 := by
    unfold lineAt
    cases hd : T.nd e.2 with
    | none => simp
    | some d =>
     obtain ⟨k0, k1, k2, k3, k4, _⟩ := h.txok hn e.2 d hd
     have := lineOf_len e.1 k1 k3 k4
     have := hl e (List.mem_cons_self ..)
     dsimp only
     omega
   omega
 have := h3 _ h1
 have : (T.pre 50001 [] T.root).length * 100080 ≤ 90000 * 100080 := Nat.mul_le_mul_right _ h2
 omega
theorem Both.text {B n : Nat} {w : World} {T : Tr} {R : RT} {f : Nat → Nat} (h : Both B w T R f n) (hn : n ≤ 100000) : Calls Tryz.prog 13 #[.pointer (some ⟨T.tb, 0, none⟩)] w fun e w' => TTextPost T.txt w e w' :=
 tree_text w h.rep (h.txok hn) 50001 h.deep (h.txt_len hn)
end
section
theorem src_low4 {w : World} {v : Value} {l : List UInt8} (h : Src w v l) : 0 < l.length → ∀ x, v.ownBlock = some x → x < w.heap.size := fun hl x hx => by
 obtain ⟨b, h1, h2⟩ := h.lt hl
 rw [h1] at hx
 cases hx
 exact h2
def OpA.op (x : OpA) : AOp := ⟨x.act.toNat, x.path, x.other, x.data⟩
end
section
structure FileAt (T : Tr) (s : ByteArray) (k : Nat) (d : Nd) : Prop where
 path : ∃ l, zbh s = some l ∧ T.at l = some k
 nd : T.nd k = some d
 file : d.dir = false
theorem zdq.fileAt {T T1 : Tr} {s : ByteArray} {b : List UInt8} {add : Bool} (hI : TI T) (h : zdq T T1 s b add) : ∃ k d, FileAt T1 s k d ∧
  ((T.nd k = none ∧ d.data = b ∧ d.links = 1) ∨ ∃ d0, FileAt T s k d0 ∧ d0.links = d.links ∧ d.data = zcs d0.data add b) := by
 rcases h with ⟨⟨dp, nm, i, k, di, dk, a1, a2, a3, a4, a5, a6, a7, a8, a9, a10⟩, _⟩ | ⟨l, k, d, b1, b2, b3, b4, b5, b6⟩
 ·refine ⟨k, dk, ⟨⟨_, a1, ?_⟩, a7.here, a8⟩, .inl ⟨a6, a9, by rw [a10]; rfl⟩⟩
  rw [a7.at hI.tw a2 a3 a4 a5 a6, if_pos rfl]
 ·obtain ⟨bv, h2⟩ := b6.here
  exact ⟨k, _, ⟨⟨l, b1, (Tr.at_same b6.root (b6.sk b3) l).trans b2⟩, h2, b4⟩, .inr ⟨d, ⟨⟨l, b1, b2⟩, b3, b4⟩, rfl, rfl⟩⟩
end
end Go.Proofs.YteeeaeiafdgpkaaGreatDoor
