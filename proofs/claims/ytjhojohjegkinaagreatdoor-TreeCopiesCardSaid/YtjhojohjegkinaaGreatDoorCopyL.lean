/-
  A copy of a tree in plain words: what it is, that it says the same.
-/
import Derived.Test.YtjhojohjegkinaaGreatDoorNames
namespace Go.Proofs.YtjhojohjegkinaaGreatDoor
open Go Go.RowKit

/-! ### who is whose copy -/
def lkC (L : List (Nat × Nat)) (n : Nat) : Option Nat := (L.find? fun p => n == p.1).map (·.2)
theorem lkC_mem {L : List (Nat × Nat)} {n c : Nat} (h : lkC L n = some c) : (n, c) ∈ L := by
  unfold lkC at h
  cases hf : L.find? (fun p => n == p.1) with
  | none => rw [hf] at h; cases h
  | some p =>
    rw [hf] at h
    have h1 := List.find?_some hf
    have h2 := List.mem_of_find?_eq_some hf
    have e1 : n = p.1 := by simpa using h1
    have e2 : p.2 = c := by simpa using h
    rw [e1, ← e2]
    exact h2
theorem lkC_of_mem : ∀ {L : List (Nat × Nat)} {n c : Nat}, (L.map (·.1)).Nodup → (n, c) ∈ L → lkC L n = some c
  | p :: L, n, c, hn, h => by
    rw [List.map_cons, List.nodup_cons] at hn
    unfold lkC
    rw [List.find?_cons]
    by_cases e : n = p.1
    · have : (n == p.1) = true := by simpa using e
      rw [this]
      rcases List.mem_cons.1 h with h | h
      · rw [← h]; rfl
      · exact absurd (List.mem_map.2 ⟨_, h, e⟩) hn.1
    · have : (n == p.1) = false := by simpa using e
      rw [this]
      rcases List.mem_cons.1 h with h | h
      · exact absurd (by rw [← h]) e
      · exact lkC_of_mem hn.2 h
theorem lkC_old {L : List (Nat × Nat)} {n c : Nat} (h : lkC L n = some c) (L2 : List (Nat × Nat)) : lkC (L ++ L2) n = some c := by
  unfold lkC at h ⊢
  rw [List.find?_append]
  cases hf : L.find? (fun p => n == p.1) with
  | none => rw [hf] at h; cases h
  | some p => rw [hf] at h; exact h
theorem lkC_none {L : List (Nat × Nat)} {n : Nat} (h : lkC L n = none) : n ∉ L.map (·.1) := fun hm => by
  obtain ⟨p, hp, e⟩ := List.mem_map.1 hm
  unfold lkC at h
  rw [Option.map_eq_none_iff, List.find?_eq_none] at h
  exact h p hp (by simpa using e.symm)
theorem lkC_new {L : List (Nat × Nat)} {n : Nat} (h : lkC L n = none) (c : Nat) : lkC (L ++ [(n, c)]) n = some c := by
  unfold lkC at h ⊢
  rw [List.find?_append]
  cases hf : L.find? (fun p => n == p.1) with
  | none => simp
  | some p => rw [hf] at h; cases h
/-- Names that lead to the copies. -/
def cpN (L : List (Nat × Nat)) (ds : List (ByteArray × Nat)) : List (ByteArray × Nat) := ds.map fun p => (p.1, (lkC L p.2).getD 0)
theorem cpN_keys (L : List (Nat × Nat)) (ds : List (ByteArray × Nat)) : (cpN L ds).map (·.1) = ds.map (·.1) := by
  unfold cpN
  rw [List.map_map]
  rfl
theorem cpN_more {L : List (Nat × Nat)} {ds : List (ByteArray × Nat)} (h : ∀ p ∈ ds, ∃ c, lkC L p.2 = some c) (L2 : List (Nat × Nat)) : cpN (L ++ L2) ds = cpN L ds := by
  unfold cpN
  refine List.map_congr_left fun p hp => ?_
  obtain ⟨c, hc⟩ := h p hp
  rw [hc, lkC_old hc]
theorem look_cpN (L : List (Nat × Nat)) (ds : List (ByteArray × Nat)) (s : ByteArray) : look (cpN L ds) s = (look ds s).map fun k => (lkC L k).getD 0 := by
  induction ds with
  | nil => rfl
  | cons p l ih =>
    unfold cpN look at ih ⊢
    rw [List.map_cons, List.find?_cons, List.find?_cons]
    dsimp only
    by_cases e : (s == p.1) = true
    · rw [e]; rfl
    · have e' : (s == p.1) = false := by simpa using e
      rw [e']
      exact ih
theorem look_perm {es fs : List (ByteArray × Nat)} (h : es.Perm fs) (hn : (fs.map (·.1)).Nodup) (s : ByteArray) : look es s = look fs s := by
  have hn' : (es.map (·.1)).Nodup := ((h.map (·.1)).nodup_iff).2 hn
  cases hf : look fs s with
  | some k => exact look_of_mem hn' (h.mem_iff.2 (look_mem hf))
  | none =>
    cases he : look es s with
    | none => rfl
    | some k =>
      rw [look_of_mem hn (h.mem_iff.1 (look_mem he))] at hf
      cases hf
/-- All names of a directory stand in its copy. -/
def Full (L : List (Nat × Nat)) (ds es : List (ByteArray × Nat)) : Prop := (∀ p ∈ ds, ∃ c, lkC L p.2 = some c) ∧ es.Perm (cpN L ds)
theorem Full.more {L : List (Nat × Nat)} {ds es : List (ByteArray × Nat)} (h : Full L ds es) (L2 : List (Nat × Nat)) : Full (L ++ L2) ds es :=
  ⟨fun p hp => by obtain ⟨c, hc⟩ := h.1 p hp; exact ⟨c, lkC_old hc L2⟩, by rw [cpN_more h.1]; exact h.2⟩

/-- What is copied so far. P: the directories whose names are being copied. -/
structure Cp (T : Tr) (L : List (Nat × Nat)) (C : Nat → Option Nd) (P : Nat → Prop) : Prop where
  keys : (L.map (·.1)).Nodup
  vals : (L.map (·.2)).Nodup
  dom : ∀ c e, C c = some e → ∃ n, (n, c) ∈ L
  node : ∀ n c, (n, c) ∈ L → ∃ d e, T.nd n = some d ∧ C c = some e ∧ e.dir = d.dir ∧ e.data = d.data ∧ e.links = d.links ∧ e.tick = d.tick ∧ (d.dir = false → e.names = []) ∧ (¬ P n → Full L d.names e.names)
theorem Cp.one {T : Tr} {L : List (Nat × Nat)} {C : Nat → Option Nd} {P : Nat → Prop} (h : Cp T L C P) {n m c : Nat} (h1 : (n, c) ∈ L) (h2 : (m, c) ∈ L) : n = m := by
  have key : ∀ (L : List (Nat × Nat)), (L.map (·.2)).Nodup → (n, c) ∈ L → (m, c) ∈ L → n = m := by
    intro L
    induction L with
    | nil => intro _ h; cases h
    | cons p l ih =>
      intro hn h1 h2
      rw [List.map_cons, List.nodup_cons] at hn
      rcases List.mem_cons.1 h1 with e1 | h1
      · rcases List.mem_cons.1 h2 with e2 | h2
        · rw [← e1] at e2; cases e2; rfl
        · exact absurd (List.mem_map.2 ⟨_, h2, by rw [← e1]⟩) hn.1
      · rcases List.mem_cons.1 h2 with e2 | h2
        · exact absurd (List.mem_map.2 ⟨_, h1, by rw [← e2]⟩) hn.1
        · exact ih hn.2 h1 h2
  exact key L h.vals h1 h2
/-- The node of a copy. -/
def unC (L : List (Nat × Nat)) (c : Nat) : Nat := ((L.find? fun p => c == p.2).map (·.1)).getD 0
theorem Cp.un {T : Tr} {L : List (Nat × Nat)} {C : Nat → Option Nd} {P : Nat → Prop} (h : Cp T L C P) {n c : Nat} (h1 : (n, c) ∈ L) : unC L c = n := by
  unfold unC
  cases hf : L.find? (fun p => c == p.2) with
  | none =>
    rw [List.find?_eq_none] at hf
    exact absurd (by simp) (hf _ h1)
  | some p =>
    have h2 := List.mem_of_find?_eq_some hf
    have h3 : c = p.2 := by simpa using List.find?_some hf
    show p.1 = n
    refine h.one ?_ h1
    rw [h3]
    exact h2
/-- The tree of the copies. -/
def cTr (T : Tr) (tb r : Nat) (C : Nat → Option Nd) : Tr := ⟨tb, r, T.clock, T.count, C⟩
theorem Cp.at_eq {T : Tr} {L : List (Nat × Nat)} {C : Nat → Option Nd} (h : Cp T L C (fun _ => False)) (hT : TW T) {r : Nat} (hr : lkC L T.root = some r) (tb : Nat) :
    ∀ l, (T.at l = none → (cTr T tb r C).at l = none) ∧ ∀ k, T.at l = some k → ∃ c, (cTr T tb r C).at l = some c ∧ lkC L k = some c := by
  refine snocInd ⟨fun h0 => (by cases h0), fun k hk => ?_⟩ (fun l x ih => ?_)
  · obtain rfl := Option.some.inj hk
    exact ⟨r, rfl, hr⟩
  · rw [Tr.at_snoc, Tr.at_snoc]
    cases hl : T.at l with
    | none =>
      rw [ih.1 hl]
      exact ⟨fun _ => rfl, fun k hk => by cases hk⟩
    | some n =>
      obtain ⟨c, h1, h2⟩ := ih.2 n hl
      rw [h1]
      show (T.hop n x = none → (cTr T tb r C).hop c x = none) ∧ ∀ k, T.hop n x = some k → ∃ c', (cTr T tb r C).hop c x = some c' ∧ lkC L k = some c'
      obtain ⟨d, e, hd, he, h3, h4, h5, h6, h7, h8⟩ := h.node n c (lkC_mem h2)
      have he' : (cTr T tb r C).nd c = some e := he
      obtain ⟨g1, g2⟩ := h8 (fun f => f)
      cases hdir : d.dir with
      | false =>
        rw [Tr.hop_file hd hdir, Tr.hop_file he' (h3.trans hdir)]
        exact ⟨fun _ => rfl, fun k hk => by cases hk⟩
      | true =>
        rw [Tr.hop_dir hd hdir, Tr.hop_dir he' (h3.trans hdir), look_perm g2 (by rw [cpN_keys]; exact hT.keys n d hd), look_cpN]
        refine ⟨fun h0 => by rw [h0]; rfl, fun k hk => ?_⟩
        obtain ⟨c', hc'⟩ := g1 _ (look_mem hk)
        rw [hk]
        exact ⟨c', by show some ((lkC L k).getD 0) = _; rw [hc']; rfl, hc'⟩
theorem Cp.back {T : Tr} {L : List (Nat × Nat)} {C : Nat → Option Nd} (h : Cp T L C (fun _ => False)) (hT : TW T) {r : Nat} (hr : lkC L T.root = some r) (tb : Nat) {l : List ByteArray} {c : Nat} (hc : (cTr T tb r C).at l = some c) : ∃ k, T.at l = some k ∧ (k, c) ∈ L := by
  obtain ⟨h1, h2⟩ := h.at_eq hT hr tb l
  cases hl : T.at l with
  | none => rw [h1 hl] at hc; cases hc
  | some k =>
    obtain ⟨c', h3, h4⟩ := h2 k hl
    rw [hc] at h3
    obtain rfl := Option.some.inj h3
    exact ⟨k, rfl, lkC_mem h4⟩
theorem Cp.mem_names {L : List (Nat × Nat)} {ds es : List (ByteArray × Nat)} (h : Full L ds es) {s : ByteArray} {k : Nat} (hk : (s, k) ∈ es) : ∃ n, (s, n) ∈ ds ∧ (n, k) ∈ L := by
  have h1 := h.2.mem_iff.1 hk
  obtain ⟨p, hp, e⟩ := List.mem_map.1 h1
  obtain ⟨c, hc⟩ := h.1 p hp
  rw [hc] at e
  cases e
  exact ⟨p.2, hp, lkC_mem hc⟩
theorem Cp.tw {T : Tr} {L : List (Nat × Nat)} {C : Nat → Option Nd} (h : Cp T L C (fun _ => False)) (hT : TW T) {r : Nat} (hr : lkC L T.root = some r) (tb : Nat) : TW (cTr T tb r C) := by
  have nd : ∀ {c e}, (cTr T tb r C).nd c = some e → ∃ n d, (n, c) ∈ L ∧ T.nd n = some d ∧ e.dir = d.dir ∧ (d.dir = false → e.names = []) ∧ Full L d.names e.names := fun {c e} hc => by
    obtain ⟨n, hn⟩ := h.dom c e hc
    obtain ⟨d, e', hd, he, h3, h4, h5, h6, h7, h8⟩ := h.node n c hn
    have hc : C c = some e := hc
    rw [he] at hc
    cases hc
    exact ⟨n, d, hn, hd, h3, h7, h8 (fun f => f)⟩
  refine ⟨?_, fun c e s k hc hs => ?_, fun c e hc hd => ?_, fun c e s k hc hs => ?_, fun c e hc => ?_, fun l m c e hl hm hc hdir => ?_⟩
  · obtain ⟨d, hd, hdd⟩ := hT.root
    obtain ⟨d', e, hd', he, h3, _⟩ := h.node _ _ (lkC_mem hr)
    rw [hd] at hd'
    cases hd'
    exact ⟨e, he, h3.trans hdd⟩
  · obtain ⟨n, d, _, _, _, _, hf⟩ := nd hc
    obtain ⟨n', _, hm⟩ := Cp.mem_names hf hs
    obtain ⟨_, e', _, he, _⟩ := h.node n' k hm
    exact ⟨e', he⟩
  · obtain ⟨n, d, _, _, h3, h4, _⟩ := nd hc
    exact h4 (h3.symm.trans hd)
  · obtain ⟨n, d, _, hd, _, _, hf⟩ := nd hc
    obtain ⟨n', h1, _⟩ := Cp.mem_names hf hs
    exact hT.part n d s n' hd h1
  · obtain ⟨n, d, _, hd, _, _, hf⟩ := nd hc
    refine ((hf.2.map (·.1)).nodup_iff).2 ?_
    rw [cpN_keys]
    exact hT.keys n d hd
  · obtain ⟨k, h1, h2⟩ := h.back hT hr tb hl
    obtain ⟨k', h3, h4⟩ := h.back hT hr tb hm
    obtain rfl := h.one h2 h4
    obtain ⟨n, d, hn, hd, h5, _, _⟩ := nd hc
    obtain rfl := h.one hn h2
    exact hT.once l m n d h1 h3 hd (h5.symm.trans hdir)

/-! ### both trees match -/
structure Pp (T : Tr) (R : RT) (f : Nat → Nat) (n : Nat) : Prop where
  sim : Sim T R f
  ti : TI T
  rn : RN R n
  tg : TG T
theorem Both.pp {B n : Nat} {w : World} {T : Tr} {R : RT} {f : Nat → Nat} (h : Both B w T R f n) : Pp T R f n := ⟨h.sim, h.ti, h.rn, h.tg⟩
theorem Pp.num {n : Nat} {T : Tr} {R : RT} {f : Nat → Nat} (h : Pp T R f n) : TNum T := h.sim.tnum h.rn.rb
theorem Pp.deep {n : Nat} {T : Tr} {R : RT} {f : Nat → Nat} (h : Pp T R f n) : T.deep 50001 T.root := by
  obtain ⟨d, hd, _⟩ := h.ti.tw.root
  refine Tr.deep_of h.ti.tw 50001 T.root d hd (fun l k hl => ?_)
  have hp : Pts l := h.ti.tw.pts hl
  have he := h.sim.leads l hp
  rw [show T.at l = some k from hl] at he
  have h1 := h.rn.rb.paths _ (entAt_mem he)
  have h2 := joinB_parts l hp
  have h1 : (joinB l).length ≤ 100000 := h1
  omega
theorem Pp.pre {n : Nat} {T : Tr} {R : RT} {f : Nat → Nat} (h : Pp T R f n) : (T.pre 50001 [] T.root).map (fun e => (e.1, f e.2)) = R.L := by
  refine srt_unique ?_ h.sim.srt (fun e => ?_)
  · have := Tr.pre_srt h.ti.tw 50001 [] T.root h.deep
    exact List.pairwise_map.2 this
  · rw [List.mem_map]
    constructor
    · rintro ⟨⟨q, k⟩, hm, rfl⟩
      obtain ⟨l, hl, rfl⟩ := (Tr.mem_pre h.ti.tw 50001 [] T.root h.deep q k).1 hm
      have he := h.sim.leads l (h.ti.tw.pts hl)
      rw [show T.at l = some k from hl] at he
      exact entAt_mem he
    · intro he
      obtain ⟨l, k, hp, h1, h2, h3⟩ := h.sim.entry he
      refine ⟨(joinB l, k), (Tr.mem_pre h.ti.tw 50001 [] T.root h.deep _ k).2 ⟨l, h2, rfl⟩, ?_⟩
      rw [← h1, ← h3]
theorem Pp.txok {n : Nat} {T : Tr} {R : RT} {f : Nat → Nat} (h : Pp T R f n) (hsm : n ≤ 100000) : TxOk T := by
  intro n d hn
  have hN := h.num
  obtain ⟨t0, t1, t2⟩ := h.ti.num n d hn
  have hc := hN.clk1
  have hl : 0 ≤ d.links ∧ d.links ≤ 4611686018427387904 := by
    cases hd : d.dir with
    | true => rw [(h.ti.dirs n d hn hd).2]; decide
    | false =>
      have := hN.lk0 n d hn hd
      have := hN.lk1 n d hn hd
      omega
  have hdl := h.ti.data n d hn
  have hnow := h.rn.now
  have hns := h.sim.now
  refine ⟨hl.1, hl.2, t0, by omega, by omega, by omega, fun p hp => ?_⟩
  have := (h.ti.tw.part n d p.1 p.2 hn hp).2
  omega
theorem Pp.txt_len {n : Nat} {T : Tr} {R : RT} {f : Nat → Nat} (h : Pp T R f n) (hn : n ≤ 100000) : T.txt.length ≤ 140737488355328 := by
  unfold Tr.txt
  rw [Tr.text_pre]
  have hp := h.pre
  have h1 : ∀ e ∈ T.pre 50001 [] T.root, e.1.length ≤ 100000 := fun e he => by
    refine h.rn.rb.paths (e.1, f e.2) ?_
    rw [← hp]
    exact List.mem_map.2 ⟨e, he, rfl⟩
  have h2 : (T.pre 50001 [] T.root).length ≤ 90000 := by
    have := congrArg List.length hp
    rw [List.length_map] at this
    rw [this]
    exact h.rn.rb.len
  have h3 : ∀ (l : List Ent), (∀ e ∈ l, e.1.length ≤ 100000) → (l.flatMap (lineAt T)).length ≤ l.length * 100080 := by
    intro l
    induction l with
    | nil => intro _; simp
    | cons e l ih =>
      intro hl
      rw [List.flatMap_cons, List.length_append, List.length_cons]
      have a1 := ih (fun e he => hl e (List.mem_cons_of_mem _ he))
      have a2 : (lineAt T e).length ≤ 100080 := by
        unfold lineAt
        cases hd : T.nd e.2 with
        | none => simp
        | some d =>
          obtain ⟨k0, k1, k2, k3, k4, _⟩ := h.txok hn e.2 d hd
          have := lineOf_len e.1 k1 k3 k4
          have := hl e (List.mem_cons_self ..)
          dsimp only
          omega
      omega
  have := h3 _ h1
  have : (T.pre 50001 [] T.root).length * 100080 ≤ 90000 * 100080 := Nat.mul_le_mul_right _ h2
  omega
theorem Pp.txt {n : Nat} {T : Tr} {R : RT} {f : Nat → Nat} (h : Pp T R f n) (hn : n ≤ 100000) : TxT T := ⟨h.txok hn, h.deep, h.txt_len hn⟩
theorem Pp.txt_same {n : Nat} {T : Tr} {R : RT} {f : Nat → Nat} (h : Pp T R f n) : T.txt = R.txt := by
  unfold Tr.txt RT.txt
  rw [Tr.text_pre, ← h.pre, List.flatMap_map]
  have key : ∀ L : List Ent, (∀ e ∈ L, ∃ l, T.at l = some e.2) → L.flatMap (lineAt T) = L.flatMap (fun e => rline R (e.1, f e.2)) := by
    intro L
    induction L with
    | nil => intro _; rfl
    | cons e L ih =>
      intro hL
      rw [List.flatMap_cons, List.flatMap_cons, ih (fun e he => hL e (List.mem_cons_of_mem _ he))]
      congr 1
      obtain ⟨l, hl⟩ := hL e (List.mem_cons_self ..)
      obtain ⟨d, hd⟩ := h.ti.tw.there hl
      obtain ⟨r, h1, h2, h3, h4⟩ := h.sim.node e.2 d hd
      unfold lineAt rline lineOf
      rw [hd]
      dsimp only
      rw [h1]
      dsimp only
      rw [h2, h3, h4]
      cases hdir : d.dir with
      | true => rfl
      | false =>
        have := h.sim.links e.2 d hd hdir
        rw [this]
  exact key _ (fun e he => by
    obtain ⟨q, k⟩ := e
    obtain ⟨l, h1, _⟩ := (Tr.mem_pre h.ti.tw 50001 [] T.root h.deep q k).1 he
    exact ⟨l, h1⟩)
/-- A copy matches the same rows. -/
theorem Pp.copy {T : Tr} {R : RT} {f : Nat → Nat} {m : Nat} (p : Pp T R f m) {L : List (Nat × Nat)} {C : Nat → Option Nd} (h : Cp T L C (fun _ => False)) {r : Nat} (hr : lkC L T.root = some r) (tb : Nat) : Pp (cTr T tb r C) R (fun c => f (unC L c)) m := by
  have hT := p.ti.tw
  have nd : ∀ {c e}, (cTr T tb r C).nd c = some e → ∃ n d, (n, c) ∈ L ∧ unC L c = n ∧ T.nd n = some d ∧ e.dir = d.dir ∧ e.data = d.data ∧ e.links = d.links ∧ e.tick = d.tick ∧ Full L d.names e.names := fun {c e} hc => by
    obtain ⟨n, hn⟩ := h.dom c e hc
    obtain ⟨d, e', hd, he, h3, h4, h5, h6, h7, h8⟩ := h.node n c hn
    have hc : C c = some e := hc
    rw [he] at hc
    cases hc
    exact ⟨n, d, hn, h.un hn, hd, h3, h4, h5, h6, h8 (fun f => f)⟩
  refine ⟨⟨fun l hl => ?_, p.sim.form, p.sim.srt, fun c e hc => ?_, fun c c' e e' hc hc' hf => ?_, p.sim.now, fun c e hc hd_ => ?_, p.sim.count⟩, ⟨h.tw hT hr tb, fun c e hc hd => ?_, fun c e hc => ?_, fun c e hc => ?_⟩, p.rn, fun c e s k hc hs => ?_⟩
  · rw [p.sim.leads l hl]
    obtain ⟨h1, h2⟩ := h.at_eq hT hr tb l
    cases hl2 : T.at l with
    | none => rw [h1 hl2]; rfl
    | some k =>
      obtain ⟨c, h3, h4⟩ := h2 k hl2
      rw [h3]
      show some (f k) = some (f (unC L c))
      rw [h.un (lkC_mem h4)]
  · obtain ⟨n, d, hn, hu, hd, h3, h4, h5, h6, _⟩ := nd hc
    obtain ⟨q, g1, g2, g3, g4⟩ := p.sim.node n d hd
    refine ⟨q, ?_, g2.trans h3.symm, g3.trans h4.symm, g4.trans h6.symm⟩
    show R.nd (f (unC L c)) = some q
    rw [hu]
    exact g1
  · obtain ⟨n, d, hn, hu, hd, _⟩ := nd hc
    obtain ⟨n', d', hn', hu', hd', _⟩ := nd hc'
    have hf : f (unC L c) = f (unC L c') := hf
    rw [hu, hu'] at hf
    obtain rfl := p.sim.inj n n' d d' hd hd' hf
    have a := lkC_of_mem h.keys hn
    have b := lkC_of_mem h.keys hn'
    rw [a] at b
    exact Option.some.inj b
  · obtain ⟨n, d, hn, hu, hd, h3, h4, h5, h6, _⟩ := nd hc
    show e.links = linksIn R.L (f (unC L c))
    rw [hu, h5]
    exact p.sim.links n d hd (h3.symm.trans hd_)
  · obtain ⟨n, d, hn, hu, hd', h3, h4, h5, h6, _⟩ := nd hc
    obtain ⟨⟨l, hl⟩, h0⟩ := p.ti.dirs n d hd' (h3.symm.trans hd)
    obtain ⟨c', g1, g2⟩ := (h.at_eq hT hr tb l).2 n hl
    rw [lkC_of_mem h.keys hn] at g2
    obtain rfl := Option.some.inj g2
    exact ⟨⟨l, g1⟩, h5.trans h0⟩
  · obtain ⟨n, d, hn, hu, hd, h3, h4, h5, h6, _⟩ := nd hc
    rw [h4]
    exact p.ti.data n d hd
  · obtain ⟨n, d, hn, hu, hd, h3, h4, h5, h6, h7⟩ := nd hc
    have hlen : e.names.length = d.names.length := by rw [h7.2.length_eq]; unfold cpN; rw [List.length_map]
    rw [h6, hlen]
    exact p.ti.num n d hd
  · obtain ⟨n, d, hn, hu, hd, h3, h4, h5, h6, h7⟩ := nd hc
    obtain ⟨n', h1, _⟩ := Cp.mem_names h7 hs
    exact p.tg n d s n' hd h1
end Go.Proofs.YtjhojohjegkinaaGreatDoor
