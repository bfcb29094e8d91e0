/-
  THE ROWS OF A TREE'S TEXT: its paths, in order. No program in sight.
  BOTH TREES IN MEMORY, alike and apart: behind each call of the laws they are so again.
  The law's made: the program's tree and the document's, behind some calls.
  THE PROGRAM's TREE BEHIND THE LAWS' CALLS, plainly: files at paths, small numbers.
-/
import Derived.Test.YtjhojohjegkinaaGreatDoorSimB
import Derived.Test.YtjhojohjegkinaaGreatDoorTextA
import Derived.Test.YtjhojohjegkinaaGreatDoorStepA
import Derived.Test.YtjhojohjegkinaaGreatDoorArgO
import Derived.Test.YtjhojohjegkinaaGreatDoorNewA
import Derived.Test.YtjhojohjegkinaaGreatDoorRefC
namespace Go.Proofs.YtjhojohjegkinaaGreatDoor
open Go Go.RowKit

section
def Tr.pre (T : Tr) : Nat → List UInt8 → Nat → List Ent
  | 0, _, _ => []
  | f + 1, path, n => match T.nd n with
    | none => []
    | some d => (path, n) :: (sortedNames d.names).flatMap fun s => T.pre f (path ++ [47] ++ s) ((look d.names ⟨s.toArray⟩).getD 0)
theorem Tr.pre_succ {T : Tr} {f n : Nat} {d : Nd} (h : T.nd n = some d) (path : List UInt8) :
    T.pre (f + 1) path n = (path, n) :: (sortedNames d.names).flatMap fun s => T.pre f (path ++ [47] ++ s) ((look d.names ⟨s.toArray⟩).getD 0) := by
  rw [Tr.pre, h]

/-- A row's line. -/
def lineAt (T : Tr) (e : Ent) : List UInt8 := match T.nd e.2 with
  | none => []
  | some d => lineOf e.1 d

theorem Tr.text_pre (T : Tr) : ∀ (f : Nat) (path : List UInt8) (n : Nat), T.text f path n = (T.pre f path n).flatMap (lineAt T)
  | 0, _, _ => rfl
  | f + 1, path, n => by
    cases hn : T.nd n with
    | none =>
      rw [Tr.text, Tr.pre, hn]
      rfl
    | some d =>
      rw [Tr.text_succ hn, Tr.pre_succ hn, List.flatMap_cons, List.flatMap_assoc]
      congr 1
      · show _ = match T.nd n with | none => [] | some d => lineOf path d
        rw [hn]
      · congr 1
        funext s
        exact Tr.text_pre T f _ _

theorem mem_sortedNames {names : List (ByteArray × Nat)} {s : List UInt8} : s ∈ sortedNames names ↔ ∃ p ∈ names, bl p.1 = s := by
  unfold sortedNames
  rw [(List.mergeSort_perm _ _).mem_iff, List.mem_map]
  exact Iff.rfl

theorem mk_bl (x : ByteArray) : (⟨(bl x).toArray⟩ : ByteArray) = x := by unfold bl; simp

theorem list_lt_of {x y : List UInt8} : x ≤ y → x ≠ y → x < y := by
  intro h hne
  induction x generalizing y with
  | nil => cases y with
    | nil => exact absurd rfl hne
    | cons b y => exact List.nil_lt_cons b y
  | cons a x ih => cases y with
    | nil => exact absurd (List.nil_lt_cons a x) h
    | cons b y =>
      rw [List.cons_lt_cons_iff]
      by_cases hab : a = b
      · subst hab
        refine .inr ⟨rfl, ih (fun hl => h (List.cons_lt_cons_iff.2 (.inr ⟨rfl, hl⟩))) (fun e => hne (by rw [e]))⟩
      · left
        have h1 : ¬ b < a := fun hl => h (List.cons_lt_cons_iff.2 (.inl hl))
        have h2 : ¬ a.toNat = b.toNat := fun e => hab (UInt8.toNat_inj.1 e)
        rw [UInt8.lt_iff_toNat_lt] at *
        omega

theorem sortedNames_srt {names : List (ByteArray × Nat)} (hk : (names.map (·.1)).Nodup) : (sortedNames names).Pairwise (· < ·) := by
  have h1 : (sortedNames names).Pairwise (fun a b => decide (a ≤ b) = true) := by
    unfold sortedNames
    refine List.pairwise_mergeSort ?_ ?_ _
    · intro a b c hab hbc
      exact decide_eq_true (List.le_trans (of_decide_eq_true hab) (of_decide_eq_true hbc))
    · intro a b
      have := List.le_total a b
      rcases this with h | h
      · rw [decide_eq_true h]; rfl
      · rw [decide_eq_true h, Bool.or_true]
  have h2 : (sortedNames names).Nodup := by
    unfold sortedNames
    refine (List.mergeSort_perm _ _).nodup_iff.2 ?_
    have : names.map nameL = (names.map (·.1)).map bl := by rw [List.map_map]; rfl
    rw [this]
    exact List.Pairwise.map _ (fun a b hab he => hab (bl_inj he)) hk
  exact (h1.and h2).imp fun ⟨a, b⟩ => list_lt_of (of_decide_eq_true a) b

theorem TW.dir_of_names {T : Tr} (h : TW T) {n : Nat} {d : Nd} (hn : T.nd n = some d) {p : ByteArray × Nat} (hp : p ∈ d.names) : d.dir = true := by
  cases hd : d.dir with
  | true => rfl
  | false =>
    rw [h.file n d hn hd] at hp
    cases hp

theorem Tr.wk_cons {T : Tr} (h : TW T) {n : Nat} {d : Nd} (hn : T.nd n = some d) {p : ByteArray × Nat} (hp : p ∈ d.names) (l : List ByteArray) : T.wk n (p.1 :: l) = T.wk p.2 l := by
  rw [Tr.wk, Tr.hop_dir hn (h.dir_of_names hn hp), look_of_mem (h.keys n d hn) hp]
  rfl

theorem joinB_cons (x : ByteArray) (l : List ByteArray) : joinB (x :: l) = [47] ++ bl x ++ joinB l := by
  unfold joinB
  rw [List.map_cons, joinL_cons]
  simp

theorem Tr.mem_pre {T : Tr} (hw : TW T) : ∀ (f : Nat) (path : List UInt8) (n : Nat), T.deep f n → ∀ (q : List UInt8) (k : Nat), (q, k) ∈ T.pre f path n ↔ ∃ l, T.wk n l = some k ∧ q = path ++ joinB l
  | 0, _, _, hd, _, _ => absurd hd id
  | f + 1, path, n, hd, q, k => by
    obtain ⟨d, hn, hkids⟩ := hd
    rw [Tr.pre_succ hn, List.mem_cons, List.mem_flatMap]
    constructor
    · rintro (h | ⟨s, hs, h⟩)
      · simp only [Prod.mk.injEq] at h
        obtain ⟨rfl, rfl⟩ := h
        exact ⟨[], rfl, by rw [joinB_nil, List.append_nil]⟩
      · obtain ⟨p, hp, rfl⟩ := mem_sortedNames.1 hs
        rw [mk_bl, look_of_mem (hw.keys n d hn) hp] at h
        obtain ⟨l, h1, h2⟩ := (Tr.mem_pre hw f _ p.2 (hkids p hp) q k).1 h
        refine ⟨p.1 :: l, (Tr.wk_cons hw hn hp l).trans h1, ?_⟩
        rw [h2, joinB_cons]
        simp
    · rintro ⟨l, h1, h2⟩
      cases l with
      | nil =>
        left
        rw [joinB_nil, List.append_nil] at h2
        rw [h2, Option.some.inj h1]
      | cons x l =>
        right
        rw [Tr.wk] at h1
        cases hx : T.hop n x with
        | none => rw [hx] at h1; cases h1
        | some k' =>
          rw [hx] at h1
          obtain ⟨d', hn', hdir, hlk⟩ := Tr.hop_some hx
          rw [hn] at hn'
          obtain rfl := Option.some.inj hn'
          have hp := look_mem hlk
          refine ⟨bl x, mem_sortedNames.2 ⟨_, hp, rfl⟩, ?_⟩
          rw [mk_bl, hlk]
          refine (Tr.mem_pre hw f _ k' (hkids _ hp) q k).2 ⟨l, h1, ?_⟩
          rw [h2, joinB_cons]
          simp

theorem Tr.pre_srt {T : Tr} (hw : TW T) : ∀ (f : Nat) (path : List UInt8) (n : Nat), T.deep f n → Srt (T.pre f path n)
  | 0, _, _, hd => absurd hd id
  | f + 1, path, n, hd => by
    have hd0 := hd
    obtain ⟨d, hn, hkids⟩ := hd
    have hsub : ∀ s ∈ sortedNames d.names, ∃ p ∈ d.names, bl p.1 = s ∧ (look d.names ⟨s.toArray⟩).getD 0 = p.2 := by
      intro s hs
      obtain ⟨p, hp, rfl⟩ := mem_sortedNames.1 hs
      refine ⟨p, hp, rfl, ?_⟩
      rw [mk_bl, look_of_mem (hw.keys n d hn) hp]
      rfl
    have hform : ∀ s ∈ sortedNames d.names, ∀ e ∈ T.pre f (path ++ [47] ++ s) ((look d.names ⟨s.toArray⟩).getD 0), ∃ u, (u = [] ∨ ∃ z, u = 47 :: z) ∧ e.1 = path ++ [47] ++ (s ++ u) := by
      intro s hs e he
      obtain ⟨p, hp, hb, hl⟩ := hsub s hs
      rw [hl] at he
      obtain ⟨l, h1, h2⟩ := (Tr.mem_pre hw f _ p.2 (hkids p hp) e.1 e.2).1 he
      exact ⟨joinB l, joinL_form _, by rw [h2]; simp⟩
    rw [Tr.pre_succ hn]
    refine List.pairwise_cons.2 ⟨fun e he => ?_, ?_⟩
    · obtain ⟨s, hs, he⟩ := List.mem_flatMap.1 he
      obtain ⟨u, _, h2⟩ := hform s hs e he
      show bef path e.1 = true
      rw [h2, List.append_assoc]
      exact bef_more path 47 (s ++ u)
    · refine List.pairwise_flatMap.2 ⟨fun s hs => ?_, ?_⟩
      · obtain ⟨p, hp, hb, hl⟩ := hsub s hs
        rw [hl]
        exact Tr.pre_srt hw f _ p.2 (hkids p hp)
      · refine List.Pairwise.imp_of_mem ?_ (sortedNames_srt (hw.keys n d hn))
        intro s t hs ht hst e he g hg
        obtain ⟨u, hu, h1⟩ := hform s hs e he
        obtain ⟨v, hv, h2⟩ := hform t ht g hg
        obtain ⟨p, hp, hb, _⟩ := hsub s hs
        obtain ⟨q, hq, hc, _⟩ := hsub t ht
        show bef e.1 g.1 = true
        rw [h1, h2, bef_append]
        exact bef_names hst (hb ▸ (hw.part n d p.1 p.2 hn hp).1.2) (hc ▸ (hw.part n d q.1 q.2 hn hq).1.2) hu

theorem Tr.deep_of {T : Tr} (hw : TW T) : ∀ (f n : Nat) (d : Nd), T.nd n = some d → (∀ l k, T.wk n l = some k → l.length < f) → T.deep f n
  | 0, n, d, _, h => absurd (h [] n rfl) (by simp)
  | f + 1, n, d, hn, h => ⟨d, hn, fun p hp => by
    obtain ⟨d', hd'⟩ := hw.kids n d p.1 p.2 hn hp
    refine Tr.deep_of hw f p.2 d' hd' fun l k hl => ?_
    have := h (p.1 :: l) k ((Tr.wk_cons hw hn hp l).trans hl)
    simp at this
    exact this⟩

/-! ### how long lines are -/

theorem decDigits_len : ∀ (k u : Nat), u < 10 ^ (k + 1) → (Lib.decDigits u).length ≤ k + 1
  | 0, u, h => by
    rw [Lib.decDigits_one (by simpa using h)]
    simp
  | k + 1, u, h => by
    by_cases hu : u < 10
    · rw [Lib.decDigits_one hu]; simp
    · rw [Lib.decDigits, dif_neg hu, List.length_append]
      have h1 : u / 10 < 10 ^ (k + 1) := by
        rw [Nat.pow_succ] at h
        omega
      have := decDigits_len k (u / 10) h1
      simp only [List.length_cons, List.length_nil]
      omega
theorem dec_len {n : Int} (h : n ≤ 4611686018427387904) : (dec n).length ≤ 20 := by
  unfold dec
  refine decDigits_len 19 _ ?_
  have h1 : n.toNat ≤ 4611686018427387904 := by omega
  have h2 : (4611686018427387904 : Nat) < 10 ^ (19 + 1) := by decide
  omega
theorem lineOf_len (path : List UInt8) {d : Nd} (h1 : d.links ≤ 4611686018427387904) (h2 : d.tick ≤ 4611686018427387904) (h3 : d.data.length ≤ 140737488355328) : (lineOf path d).length ≤ path.length + 80 := by
  have q1 := dec_len h1
  have q2 := dec_len h2
  have q3 := dec_len (n := (d.data.length : Int)) (by omega)
  have q4 : (if path = [] then ([47] : List UInt8) else []).length ≤ 1 := by split <;> simp
  have q5 : (if d.dir = true then ([32, 100, 32] : List UInt8) else [32, 102, 32] ++ dec d.data.length ++ [32] ++ dec d.links ++ [32]).length ≤ 50 := by
    split
    · simp
    · simp only [List.length_append, List.length_cons, List.length_nil]; omega
  unfold lineOf
  simp only [List.length_append, List.length_cons, List.length_nil]
  omega
end

section
/-- No row of bytes is of both. -/
def Apart (T : Tr) (R : RT) : Prop := ∀ b n d n' d', T.nd n = some d → R.nd n' = some d' → d.bv.ownBlock = some b → d'.dv.ownBlock = some b → False

theorem feet_apart {B B' : Nat} {w : World} {T : Tr} {R : RT} (hT : Rep B w T) (hR : RRep B' w R) (hA : Apart T R) : ∀ b, T.foot b → R.foot b → False := by
  intro b hb hr
  rcases hb with rfl | ⟨d, hd⟩ | ⟨n, d, hd, ⟨hdir, rfl⟩ | hv⟩
  · exact hR.not_foot hT.tree (by decide) (by decide) (by decide) (by decide) hr
  · exact hR.not_foot (hT.node b d hd).cells (by decide) (by decide) (by decide) (by decide) hr
  · obtain ⟨es, ck, hes, _⟩ := (hT.node n d hd).map hdir
    rcases hr with h | hv | ⟨e, he⟩ | ⟨m, e, he, hv⟩
    · exact cells_ne_map hR.tree hes h.symm
    · obtain ⟨cur, hc⟩ := owns_heap hR.rows hv
      exact cells_ne_map hc hes rfl
    · exact cells_ne_map (hR.node _ e he).1 hes rfl
    · obtain ⟨cur, hc⟩ := owns_heap (hR.node m e he).2 hv
      exact cells_ne_map hc hes rfl
  · obtain ⟨cur, hc⟩ := owns_heap (hT.node n d hd).row hv
    rcases hr with h | hv' | ⟨e, he⟩ | ⟨m, e, he, hv'⟩
    · exact cells_ne_type hR.tree hc (by decide) h.symm
    · obtain ⟨cur', hc'⟩ := owns_heap hR.rows hv'
      exact cells_ne_type hc' hc (by decide) rfl
    · exact cells_ne_type (hR.node _ e he).1 hc (by decide) rfl
    · exact hA b n d m e hd he hv hv'

structure Both (B : Nat) (w : World) (T : Tr) (R : RT) (f : Nat → Nat) (n : Nat) : Prop where
  rep : Rep B w T
  rrep : RRep B w R
  sim : Sim T R f
  ti : TI T
  rn : RN R n
  apart : Apart T R
  base : B ≤ w.heap.size
  tg : TG T
theorem Both.below {B n : Nat} {w w' : World} {T : Tr} {R : RT} {f : Nat → Nat} (h : Both B w T R f n) (k : Below w.heap.size w w') : Both B w' T R f n :=
  ⟨h.rep.below k, h.rrep.below k, h.sim, h.ti, h.rn, h.apart, Nat.le_trans h.base k.size, h.tg⟩
theorem Both.num {B n : Nat} {w : World} {T : Tr} {R : RT} {f : Nat → Nat} (h : Both B w T R f n) : TNum T := h.sim.tnum h.rn.rb
theorem Both.mono {B n m : Nat} {w : World} {T : Tr} {R : RT} {f : Nat → Nat} (h : Both B w T R f n) (hm : n ≤ m) : Both B w T R f m := ⟨h.rep, h.rrep, h.sim, h.ti, h.rn.mono hm, h.apart, h.base, h.tg⟩

/-- The program's call is made, the document's is not yet. -/
structure Half (B : Nat) (w : World) (T T1 : Tr) (R : RT) (f : Nat → Nat) (n : Nat) (o : AOp) : Prop where
  rep : Rep B w T1
  rrep : RRep B w R
  sim : Sim T R f
  ti : TI T
  rn : RN R n
  apart : Apart T1 R
  case : (T.code o ≠ 0 ∧ T1 = T) ∨ (T.code o = 0 ∧ PDone T T1 o)
  tb : T1.tb = T.tb
  base : B ≤ w.heap.size
  tg : TG T
/-- What the program's call told. -/
def Told (E : Nat → Addr) (w : World) (T : Tr) (o : AOp) (e : Ending) (w1 : World) : Prop := (T.code o ≠ 0 ∧ TErr E w (T.code o) e w1) ∨ (T.code o = 0 ∧ e = .returned .nilIface)
theorem Both.half {E : Nat → Addr} {B n : Nat} {w w1 : World} {T : Tr} {R : RT} {f : Nat → Nat} {o : AOp} {e : Ending} (h : Both B w T R f n) (hx : TAns E B w T (T.code o) (fun T' => PDone T T' o) e w1) :
    ∃ T1, Half B w1 T T1 R f n o ∧ Told E w T o e w1 ∧ Below B w w1 := by
  rcases hx with ⟨h0, h1⟩ | ⟨h0, h1, T', h2, h3, h4, h5, h6⟩
  · have hb : Below w.heap.size w w1 := by obtain ⟨a, _, _, hb⟩ := h1; exact hb
    exact ⟨T, ⟨h.rep.below hb, h.rrep.below hb, h.sim, h.ti, h.rn, h.apart, .inl ⟨h0, rfl⟩, rfl, Nat.le_trans h.base hb.size, h.tg⟩, .inl ⟨h0, h1⟩, hb.mono h.base⟩
  · have hr : RRep B w1 R := h.rrep.kept h3 (fun b hb hf => feet_apart h.rep h.rrep h.apart b hf hb)
    refine ⟨T', ⟨h2, hr, h.sim, h.ti, h.rn, ?_, .inr ⟨h0, h6⟩, h5, Nat.le_trans h.base h3.size, h.tg⟩, .inr ⟨h0, h1⟩, h3.below h.rep.low h.base⟩
    intro b m d m' d' hm hm' hv hv'
    have hrf : R.foot b := .inr (.inr (.inr ⟨m', d', hm', hv'⟩))
    rcases h4 b (.inr (.inr ⟨m, d, hm, .inr hv⟩)) with h7 | h7
    · exact feet_apart h.rep h.rrep h.apart b h7 hrf
    · have := h.rrep.lt hrf
      omega
theorem Half.both {B n : Nat} {w1 w2 : World} {T T1 : Tr} {R : RT} {f : Nat → Nat} {o : AOp} {e : Ending} (h : Half B w1 T T1 R f n o) (hm : ModelPost B w1 R o e w2) (hn : n < 80000) :
    ∃ R' f', Both B w2 T1 R' f' (n + 1) ∧ R'.tb = R.tb ∧ ((T.code o = 0 ∧ e = .returned flt0) ∨ (T.code o ≠ 0 ∧ e = .returned (fltV (T.code o)))) ∧ Below B w1 w2 := by
  have hr : Rep B w2 T1 := h.rep.kept hm.kept (fun b hb hf => feet_apart h.rep h.rrep h.apart b hb hf)
  have hb : Below B w1 w2 := hm.kept.below h.rrep.low h.base
  have hbs : B ≤ w2.heap.size := Nat.le_trans h.base hm.kept.size
  rcases hm.case with ⟨c, hc, he, hrr, hme⟩ | ⟨he, R', hrr, htb, hfr, hmo⟩
  · have hcode := h.sim.code_err h.ti.tw hme
    have hT : T1 = T := by
      rcases h.case with ⟨_, h1⟩ | ⟨h1, _⟩
      · exact h1
      · exact absurd (hcode.symm.trans h1) hc
    have hap := h.apart
    subst hT
    exact ⟨R, f, ⟨hr, hrr, h.sim, h.ti, h.rn.mono (Nat.le_succ _), hap, hbs, h.tg⟩, rfl, .inr ⟨by rw [hcode]; exact hc, by rw [hcode]; exact he⟩, hb⟩
  · have hcode := h.sim.code_ok h.ti.tw hmo
    have hP : PDone T T1 o := by
      rcases h.case with ⟨h1, _⟩ | ⟨_, h1⟩
      · exact absurd hcode h1
      · exact h1
    obtain ⟨f', hs⟩ := h.sim.step h.ti.tw hP hmo
    refine ⟨R', f', ⟨hr, hrr, hs, hP.ti h.ti, hmo.rn h.rn hn, ?_, hbs, hP.tg h.ti h.tg⟩, htb, .inl ⟨hcode, he⟩, hb⟩
    intro b m d m' d' hm1 hm2 hv hv'
    rcases hfr m' d' b hm2 hv' with h7 | ⟨y, e, h8, h9⟩
    · have := h.rep.lt (.inr (.inr ⟨m, d, hm1, .inr hv⟩))
      omega
    · exact h.apart b m d y e hm1 h8 hv h9

/-! ### the two new trees -/
theorem newTr_ti (tb root mb : Nat) : TI (newTr tb root mb) ∧ ∀ l k, (newTr tb root mb).at l = some k → l = [] := by
  have hs : ∀ n d, (newTr tb root mb).nd n = some d → n = root ∧ d.names = [] ∧ d.dir = true ∧ d.links = 0 ∧ d.data = [] := fun n d h => by
    obtain ⟨h1, h2⟩ := newTr_nd h
    subst h2
    exact ⟨h1, rfl, rfl, rfl, rfl⟩
  have hat : ∀ l k, (newTr tb root mb).at l = some k → l = [] := by
    refine snocInd ?_ ?_
    · intro k _; rfl
    · intro l x ih k h
      rw [Tr.at_snoc] at h
      cases hl : (newTr tb root mb).at l with
      | none => rw [hl] at h; cases h
      | some n =>
        rw [hl] at h
        obtain ⟨d, h1, _, h3⟩ := Tr.hop_some h
        rw [(hs n d h1).2.1] at h3
        cases h3
  have htw : TW (newTr tb root mb) := by
    refine ⟨⟨_, newTr_root tb root mb, rfl⟩, fun n d s k h1 h2 => ?_, fun n d h1 h2 => ?_, fun n d s k h1 h2 => ?_, fun n d h1 => ?_, fun l m k d h1 h2 _ _ => ?_⟩
    · rw [(hs n d h1).2.1] at h2; cases h2
    · exact (hs n d h1).2.1
    · rw [(hs n d h1).2.1] at h2; cases h2
    · rw [(hs n d h1).2.1]; exact List.nodup_nil
    · rw [hat l k h1, hat m k h2]
  exact ⟨⟨htw, fun n d h1 _ => ⟨⟨[], by rw [(hs n d h1).1]; rfl⟩, (hs n d h1).2.2.2.1⟩, fun n d h1 => by rw [(hs n d h1).2.2.2.2]; exact Nat.zero_le _, fun n d h1 => by
    obtain ⟨_, h2⟩ := newTr_nd h1
    subst h2
    exact ⟨Int.le_refl _, Int.le_refl _, Int.le_refl _⟩⟩, hat⟩
theorem both_new {B : Nat} {w : World} {tb root mb : Nat} {R : RT} {i : Nat} (hT : Rep B w (newTr tb root mb)) (hR : RRep B w R) (hL : R.L = [([], i)]) (hnow : R.now = 0) (hi : R.nd i = some (newRNd true)) (ho : ∀ n, n ≠ i → R.nd n = none) (hB : B ≤ w.heap.size) :
    Both B w (newTr tb root mb) R (fun _ => i) 0 := by
  obtain ⟨hti, hat⟩ := newTr_ti tb root mb
  have hs : ∀ n d, (newTr tb root mb).nd n = some d → n = root ∧ d = { dir := true, bv := .slice none 0 0, data := [], names := [], mb := mb, links := 0, tick := 0 } := fun n d h => newTr_nd h
  have hR' : ∀ n d, R.nd n = some d → n = i ∧ d = newRNd true := fun n d h => by
    by_cases e : n = i
    · subst e; rw [hi] at h; cases h; exact ⟨rfl, rfl⟩
    · rw [ho n e] at h; cases h
  refine ⟨hT, hR, ⟨fun l hl => ?_, fun e he => ?_, ?_, fun n d hn => ?_, fun n m d e hn hm _ => ?_, hnow, fun n d hn hd => ?_, ?_⟩, hti, ⟨⟨?_, fun e he => ?_, ?_, ?_, ?_⟩, ?_, ?_, fun m d hm => ?_⟩, fun b n d n' d' hn _ hv _ => ?_, hB, fun n d s k hn hx => by rw [(hs n d hn).2] at hx; cases hx⟩
  · cases ha : (newTr tb root mb).at l with
    | some k =>
      obtain rfl := hat l k ha
      rw [hL]
      rfl
    | none =>
      rw [hL]
      show (if ([] : List UInt8) = joinB l then some i else none) = none
      rcases snoc_form l with rfl | ⟨dp, nm, rfl⟩
      · cases ha
      · refine if_neg (fun e => ?_)
        have e2 : joinB (dp ++ [nm]) = joinB dp ++ 47 :: bl nm := by
          show joinL ((dp ++ [nm]).map bl) = joinL (dp.map bl) ++ 47 :: bl nm
          rw [List.map_append, List.map_singleton, joinL_snoc]
        rw [e2] at e
        have := congrArg List.length e
        simp at this
  · rw [hL] at he
    obtain rfl : e = ([], i) := by simpa using he
    exact ⟨[], Pts.nil, rfl⟩
  · rw [hL]; exact List.pairwise_singleton ..
  · obtain ⟨_, rfl⟩ := hs n d hn
    exact ⟨_, hi, rfl, rfl, rfl⟩
  · rw [(hs n d hn).1, (hs m e hm).1]
  · obtain ⟨_, rfl⟩ := hs n d hn
    cases hd
  · rw [hL]; rfl
  · rw [hL]; simp
  · rw [hL] at he
    obtain rfl : e = ([], i) := by simpa using he
    simp
  · rw [hL]; simp [entAt]
  · rw [hnow]; decide
  · rw [hnow]; decide
  · rw [hL]; simp
  · rw [hnow]; decide
  · obtain ⟨_, rfl⟩ := hR' m d hm
    exact Nat.zero_le _
  · obtain ⟨_, rfl⟩ := hs n d hn
    cases hv

/-! ### its text -/
def Tr.txt (T : Tr) : List UInt8 := T.text 50001 [] T.root
/-- What a text wants of a tree. -/
structure TxT (T : Tr) : Prop where
  ok : TxOk T
  deep : T.deep 50001 T.root
  len : T.txt.length ≤ 140737488355328
theorem TxT.text {B : Nat} {w : World} {T : Tr} (h : TxT T) (hR : Rep B w T) : Calls Tryz.prog 14 #[.pointer (some ⟨T.tb, 0, none⟩)] w fun e w' => TTextPost T.txt w e w' :=
  tree_text w hR h.ok 50001 h.deep h.len
end

section
theorem src_low4 {w : World} {v : Value} {l : List UInt8} (h : Src w v l) : 0 < l.length → ∀ x, v.ownBlock = some x → x < w.heap.size := fun hl x hx => by
  obtain ⟨b, h1, h2⟩ := h.lt hl
  rw [h1] at hx
  cases hx
  exact h2
def opAV (x : OpA) (da : Option Addr) (dc : Nat) : Value := .agg #[.int .i64 x.act, .string x.path, .string x.other, .slice da x.data.length dc]
def OpA.op (x : OpA) : AOp := ⟨x.act.toNat, x.path, x.other, x.data⟩
theorem opAV_op {x : OpA} (h : 0 ≤ x.act) (da : Option Addr) (dc : Nat) : opAV x da dc = opV x.op (.slice da x.data.length dc) := by
  unfold opAV opV OpA.op
  rw [Int.toNat_of_nonneg h]

set_option maxRecDepth 100000 in
set_option maxHeartbeats 1000000 in
theorem sound_any (x : OpA) (da : Option Addr) (dc : Nat) (w : World) :
    Calls Tryz.prog 27 #[opAV x da dc] w fun e w' => VPost w (.bool (decide (0 ≤ x.act ∧ x.act ≤ 6))) e w' := by
  obtain ⟨a, p, q, d⟩ := x
  unfold opAV
  go_enter Tryz.func27, Tryz.ntmps27
  obtain ⟨w2, hw2⟩ : ∃ w2, w2 = w.alloc (.cells #[.int .i64 a, .string p, .string q, .slice da d.length dc] 53) := ⟨_, rfl⟩
  have HW2 := Lib.hid hw2
  have HB2 : Hid (Below w.heap.size w w2) := by rw [hw2]; exact below_alloc w _
  have HO2 : Hid (w2.heap[w.heap.size]? = some (.cells #[.int .i64 a, .string p, .string q, .slice da d.length dc] 53 (0, 0))) := by rw [hw2]; exact heap_alloc_new w _
  clear hw2
  go_upto_region 1 with fail
  rw [← HW2.out]
  clear HW2
  have o0 := cell_of (o := 0) HO2.out rfl
  by_cases h1 : 0 ≤ a
  · by_cases h2 : a ≤ 6
    · go_wp2_with fail
      go_ret
      exact ⟨by simp [h1, h2], HB2.out⟩
    · have h2 : 6 < a := by omega
      go_wp2_with fail
      go_ret
      exact ⟨by simp; omega, HB2.out⟩
  · have h1 : a < 0 := by omega
    go_wp2_with fail
    go_ret
    exact ⟨by simp; omega, HB2.out⟩

/-- A call at a place, cell by cell. -/
def OpIn (w : World) (b o : Nat) (act : Int) (p q : ByteArray) (dat : List UInt8) (da : Option Addr) (dc : Nat) : Prop :=
  w.cell? ⟨b, o, none⟩ = some (.int .i64 act) ∧ w.cell? ⟨b, o + 1, none⟩ = some (.string p) ∧ w.cell? ⟨b, o + 2, none⟩ = some (.string q) ∧ w.cell? ⟨b, o + 3, none⟩ = some (.slice da dat.length dc) ∧ Src w (.slice da dat.length dc) dat
theorem OpIn.up {w w' : World} {b o : Nat} {act : Int} {p q : ByteArray} {dat : List UInt8} {da : Option Addr} {dc : Nat} (h : OpIn w b o act p q dat da dc) (k : Below w.heap.size w w') : OpIn w' b o act p q dat da dc := by
  obtain ⟨h0, h1, h2, h3, h4⟩ := h
  exact ⟨below_cell k h0, below_cell k h1, below_cell k h2, below_cell k h3, h4.kept (Kept.of_below k (fun _ => False)) (fun _ _ h => h)⟩
def MadePost (w : World) (e : Ending) (w' : World) : Prop :=
  ∃ T R f, e = .returned (.tuple #[.pointer (some ⟨T.tb, 0, none⟩), .pointer (some ⟨R.tb, 0, none⟩)]) ∧ Both w.heap.size w' T R f 80 ∧ Below w.heap.size w w'
/-- The state of the loop. -/
def MI (w : World) (tb rb : Nat) (k : Nat) (wr : World) : Prop := ∃ T R f, Both w.heap.size wr T R f k ∧ T.tb = tb ∧ R.tb = rb ∧ Below w.heap.size w wr

set_option maxRecDepth 100000 in
set_option maxHeartbeats 4000000 in
theorem made_any {E : Nat → Addr} {B0 : Nat} (w : World) (hE : Ctx E B0 w) (v : Value) (l : List OpA) (hl : OSrc w v l) (hok : ∀ x ∈ l, OpOk x) (hll : l.length ≤ 9223372036854775807) :
    Calls Tryz.prog 13 #[v] w fun e w' => MadePost w e w' := by
  obtain ⟨va, vc, rfl⟩ : ∃ va vc, v = .slice va l.length vc := by
    rcases hl with ⟨rfl, a, c, h⟩ | ⟨b, o, c, h, _⟩
    · exact ⟨a, c, h⟩
    · exact ⟨_, c, h⟩
  have HE := Lib.hid hE.raise
  have HL := Lib.hid hl
  have HOK := Lib.hid hok
  clear hE hl hok
  go_enter Tryz.func13, Tryz.ntmps13
  go_wp2_with fail
  refine (tree_new w).mono ?_
  intro e w1 hp
  obtain ⟨rfl, hrep1, hb1, hs1⟩ := hp
  have HR1 := Lib.hid (hrep1 w.heap.size (Nat.le_refl _))
  have HB1 := Lib.hid hb1
  clear hrep1 hb1 hs1
  go_wp2_with fail
  refine (ref_new w.heap.size w1 HB1.out.size).mono ?_
  intro e w2 hp
  obtain ⟨R, i, rfl, hr2, hL, hnow, hi, ho, hft⟩ := hp.tree
  obtain ⟨tb, htb⟩ : ∃ tb, tb = w.heap.size + 2 := ⟨_, rfl⟩
  have HMI : Hid (MI w tb R.tb 0 w2) := ⟨_, R, _, both_new (HR1.out.below hp.below) hr2 hL hnow hi ho (Nat.le_trans HB1.out.size hp.below.size), htb.symm, rfl, below_trans HB1.out hp.below⟩
  rw [← htb]
  clear hr2 hL hnow hi ho hft hp HR1 HB1 htb
  generalize R.tb = rb at *
  go_wp2_with fail
  go_loopw [6] (fun idx wr => ∃ k : Nat, k ≤ l.length ∧ k ≤ 80 ∧ idx = .int .i64 k ∧ Hid (MI w tb rb k wr)) (fun idx _ => l.length - (intOf idx).toNat)
  case atStart => exact ⟨0, Nat.zero_le _, by decide, rfl, HMI⟩
  case round =>
    clear HMI
    obtain ⟨k, hk, hk80, rfl, hmi⟩ := hrel
    by_cases hgo : k < l.length ∧ k < 80
    · obtain ⟨hlt, h80⟩ := hgo
      have hki : (k : Int) < l.length := by omega
      have h80i : (k : Int) < 80 := by omega
      rcases HL.out with ⟨h0, _⟩ | ⟨b, o, c, hv, hcells⟩
      · rw [h0] at hlt; simp at hlt
      simp only [Value.slice.injEq, true_and] at hv
      obtain ⟨rfl, rfl⟩ := hv
      have HCL := Lib.hid hcells
      obtain ⟨T, R, f, hbo, htb, hrb, hbl⟩ := hmi.out
      have HBO := Lib.hid hbo
      have HTB := Lib.hid htb
      have HRB := Lib.hid hrb
      have HBL := Lib.hid hbl
      clear hcells hbo htb hrb hbl hmi
      have hop := HCL.out k hlt
      have hox := HOK.out _ (List.getElem_mem hlt)
      generalize l[k] = x at hop hox
      have HOP := Lib.hid hop
      have HOX := Lib.hid hox
      clear hop hox HCL
      obtain ⟨act, xp, xq, dat⟩ := x
      obtain ⟨xa, xc, hin⟩ := HOP.out
      have HIN : Hid (OpIn w b (o + k * 4) act xp xq dat xa xc) := hin
      clear hin HOP
      obtain ⟨g0, g1, g2, g3, g4⟩ := HIN.out.up HBL.out
      clear g4
      go_wp2_with fail
      refine (sound_any ⟨act, xp, xq, dat⟩ xa xc wr).mono ?_
      rintro e w3 ⟨rfl, hb3⟩
      have HBO3 := Lib.hid (HBO.out.below hb3)
      have HBL3 : Hid (Below w.heap.size w w3) := HBL.out.trans (hb3.mono HBO.out.base)
      clear hb3 g0 g1 g2 g3 HBO HBL
      by_cases hs : 0 ≤ act ∧ act ≤ 6
      · have hd : decide (0 ≤ act ∧ act ≤ 6) = true := decide_eq_true hs
        dsimp only
        rw [hd]
        obtain ⟨g0, g1, g2, g3, g4⟩ := HIN.out.up HBL3.out
        have HDO : Hid (Calls Tryz.prog 28 #[.pointer (some ⟨tb, 0, none⟩), .agg #[.int .i64 act, .string xp, .string xq, .slice xa dat.length xc]] w3 fun e w' => TAns E w.heap.size w3 T (T.code (OpA.op ⟨act, xp, xq, dat⟩)) (fun T' => PDone T T' (OpA.op ⟨act, xp, xq, dat⟩)) e w') := by
          have h := do_any (OpA.op ⟨act, xp, xq, dat⟩) (.slice xa dat.length xc) w3 (HE.out.below HBL3.out) HBO3.out.rep HBO3.out.ti HBO3.out.num (by show act.toNat ≤ 6; omega) HOX.out.path HOX.out.other g4 (fun h x hx hf => by
            have h1 := src_low4 HIN.out.2.2.2.2 h x hx
            have h2 := HBO3.out.rep.low x hf
            omega)
          rw [← opAV_op (x := ⟨act, xp, xq, dat⟩) hs.1, HTB.out] at h
          exact h
        clear g4
        go_wp2_with fail
        refine HDO.out.mono ?_
        intro e w4 hp
        obtain ⟨y, rfl, hy⟩ := hp.plain
        obtain ⟨T1, hh, _, hb4⟩ := HBO3.out.half hp
        have HH := Lib.hid hh
        have HBL4 : Hid (Below w.heap.size w w4) := HBL3.out.trans hb4
        clear hp hh hb4 hy g0 g1 g2 g3 HDO HBO3 HBL3
        obtain ⟨g0, g1, g2, g3, g4⟩ := HIN.out.up HBL4.out
        have HMO : Hid (Calls Tryz.prog 40 #[.pointer (some ⟨rb, 0, none⟩), .agg #[.int .i64 act, .string xp, .string xq, .slice xa dat.length xc]] w4 fun e w' => ModelPost w.heap.size w4 R (OpA.op ⟨act, xp, xq, dat⟩) e w') := by
          have hl := HH.out.rn.len
          have hn := HH.out.rn.now
          have hdl : dat.length ≤ 140737488355328 := HOX.out.data
          have h := ref_model (OpA.op ⟨act, xp, xq, dat⟩) (.slice xa dat.length xc) w4 HH.out.rrep HH.out.rn.rb (by omega) (by omega) (by show act.toNat ≤ 6; omega) HOX.out.path HOX.out.other g4 (by show dat.length ≤ _; omega) (fun n d hn => by have := HH.out.rn.data n d hn; show d.data.length + dat.length ≤ _; omega)
          rw [← opAV_op (x := ⟨act, xp, xq, dat⟩) hs.1, HRB.out] at h
          exact h
        clear g4
        go_wp2_with fail
        refine HMO.out.mono ?_
        intro e w5 hp
        obtain ⟨R', f', hbo5, hrb5, htold, hb5⟩ := HH.out.both hp (by omega)
        have HMI5 : Hid (MI w tb rb (k + 1) w5) := ⟨T1, R', f', hbo5, HH.out.tb.trans HTB.out, hrb5.trans HRB.out, HBL4.out.trans hb5⟩
        clear hp hbo5 hrb5 hb5 g0 g1 g2 g3 HMO HH HBL4
        rcases htold with ⟨_, rfl⟩ | ⟨_, rfl⟩
        all_goals
          go_wp2_with fail
          go_roundw
          case rel => exact ⟨k + 1, by omega, by omega, by go_num, HMI5⟩
          case measure => simp [intOf]; omega
      · have hd : decide (0 ≤ act ∧ act ≤ 6) = false := decide_eq_false hs
        dsimp only
        rw [hd]
        have HMI5 : Hid (MI w tb rb (k + 1) w3) := ⟨T, R, f, HBO3.out.mono (by omega), HTB.out, HRB.out, HBL3.out⟩
        go_wp2_with fail
        go_roundw
        case rel => exact ⟨k + 1, by omega, by omega, by go_num, HMI5⟩
        case measure => simp [intOf]; omega
    · have HX : Hid (MadePost w (.returned (.tuple #[.pointer (some ⟨tb, 0, none⟩), .pointer (some ⟨rb, 0, none⟩)])) wr) := by
        obtain ⟨T, R, f, hbo, rfl, rfl, hbl⟩ := hmi.out
        exact ⟨T, R, f, rfl, hbo.mono hk80, hbl⟩
      by_cases hlt : k < l.length
      · have hki : (k : Int) < l.length := by omega
        have h80i : (80 : Int) ≤ k := by omega
        go_wp2_with fail
        go_ret2
        exact HX.out
      · have hki : (l.length : Int) ≤ k := by omega
        go_wp2_with fail
        go_ret2
        exact HX.out
end

section
/-! ### files at paths -/

/-! ### small numbers -/

/-! ### in memory -/
end
end Go.Proofs.YtjhojohjegkinaaGreatDoor
