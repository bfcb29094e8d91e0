/-
  TreeGone, plainly: texts without stamps; a tree from which a name was taken that was just given.
  TreeGone's plain law: what was made and taken away again leaves clock and stamps alone. And what the calls' codes are there.
  (*Tree).Stat of any path.
  (*Tree).Stat of a directory, and of any path.
-/
import Derived.Test.YtjhojohjegkinaaGreatDoorBothA
import Derived.Test.YtjhojohjegkinaaGreatDoorStatF
import Derived.WideLaws
namespace Go.Proofs.YtjhojohjegkinaaGreatDoor
open Go Go.RowKit

section
/-! ### bare -/
def bStep (s : List UInt8 × Nat) (b : UInt8) : List UInt8 × Nat :=
  let out := s.1 ++ [b]
  let e := if b = 32 then out.length else s.2
  (if b = 10 then out.take e else out, e)
def bFold (s : List UInt8 × Nat) (l : List UInt8) : List UInt8 × Nat := l.foldl bStep s
def bareL (l : List UInt8) : List UInt8 := (bFold ([], 0) l).1
theorem bFold_append (s : List UInt8 × Nat) (a b : List UInt8) : bFold s (a ++ b) = bFold (bFold s a) b := List.foldl_append ..
theorem bFold_plain : ∀ (l : List UInt8) (s : List UInt8 × Nat), (∀ b ∈ l, b ≠ 32 ∧ b ≠ 10) → bFold s l = (s.1 ++ l, s.2)
  | [], s, _ => by simp [bFold]
  | b :: l, s, h => by
    obtain ⟨h1, h2⟩ := h b (List.mem_cons_self ..)
    have e : bStep s b = (s.1 ++ [b], s.2) := by simp [bStep, h1, h2]
    show bFold (bStep s b) l = _
    rw [e, bFold_plain l _ (fun b hb => h b (List.mem_cons_of_mem _ hb))]
    simp
theorem bFold_end (s : List UInt8 × Nat) (l : List UInt8) (h : ∀ b ∈ l, b ≠ 32 ∧ b ≠ 10) : bFold s ([32] ++ l ++ [10]) = (s.1 ++ [32], s.1.length + 1) := by
  rw [bFold_append, bFold_append]
  have e : bFold s [32] = (s.1 ++ [32], s.1.length + 1) := by simp [bFold, bStep]
  rw [e, bFold_plain l _ h]
  show bStep (s.1 ++ [32] ++ l, s.1.length + 1) 10 = _
  have h1 : bStep (s.1 ++ [32] ++ l, s.1.length + 1) 10 = ((s.1 ++ [32] ++ l ++ [10]).take (s.1.length + 1), s.1.length + 1) := by simp [bStep]
  rw [h1, List.append_assoc (s.1 ++ [32]), List.take_left' (by simp)]

theorem digit_plain {u : Nat} (h : u < 10) : (UInt8.ofNat (48 + u)) ≠ 32 ∧ (UInt8.ofNat (48 + u)) ≠ 10 := by
  have : u = 0 ∨ u = 1 ∨ u = 2 ∨ u = 3 ∨ u = 4 ∨ u = 5 ∨ u = 6 ∨ u = 7 ∨ u = 8 ∨ u = 9 := by omega
  rcases this with rfl | rfl | rfl | rfl | rfl | rfl | rfl | rfl | rfl | rfl <;> decide
theorem digits_plain (u : Nat) : ∀ b ∈ Lib.decDigits u, b ≠ 32 ∧ b ≠ 10 := by
  induction u using Nat.strongRecOn with
  | ind u ih =>
    intro b hb
    rw [Lib.decDigits] at hb
    split at hb
    · rename_i h
      rw [List.mem_singleton] at hb
      subst hb
      exact digit_plain h
    · rename_i h
      rcases List.mem_append.1 hb with hb | hb
      · exact ih (u / 10) (by omega) b hb
      · rw [List.mem_singleton] at hb
        subst hb
        exact digit_plain (by omega)
theorem dec_plain (n : Int) : ∀ b ∈ dec n, b ≠ 32 ∧ b ≠ 10 := digits_plain _
def headOf (path : List UInt8) (d : Nd) : List UInt8 := path ++ (if path = [] then [47] else []) ++ (if d.dir then [32, 100] else [32, 102, 32] ++ dec d.data.length ++ [32] ++ dec d.links)
theorem lineOf_head (path : List UInt8) (d : Nd) : lineOf path d = headOf path d ++ ([32] ++ dec d.tick ++ [10]) := by
  unfold lineOf headOf
  cases d.dir <;> simp
theorem bare_line (s : List UInt8 × Nat) (path : List UInt8) {d d' : Nd} (h1 : d'.dir = d.dir) (h2 : d.dir = false → d'.data.length = d.data.length ∧ d'.links = d.links) : bFold s (lineOf path d) = bFold s (lineOf path d') := by
  have e : headOf path d' = headOf path d := by
    unfold headOf
    rw [h1]
    cases h : d.dir with
    | true => rfl
    | false => rw [(h2 h).1, (h2 h).2]
  rw [lineOf_head path d, lineOf_head path d', bFold_append s (headOf path d), bFold_append s (headOf path d'), e, bFold_end _ _ (dec_plain _), bFold_end _ _ (dec_plain _)]

/-- Trees of the same paths, whose nodes differ in stamps at most. -/
structure Bare (T T' : Tr) : Prop where
  at' : ∀ l, T'.at l = T.at l
  nd : ∀ l n, T.at l = some n → ∃ d d', T.nd n = some d ∧ T'.nd n = some d' ∧ d'.dir = d.dir ∧ (d.dir = false → d'.data.length = d.data.length ∧ d'.links = d.links)
theorem Bare.text {T T' : Tr} (h : Bare T T') (hT : TW T) (hT' : TW T') (hd : T.deep 50001 T.root) (hd' : T'.deep 50001 T'.root) : bareL T'.txt = bareL T.txt := by
  have hpre : T'.pre 50001 [] T'.root = T.pre 50001 [] T.root := by
    refine srt_unique (Tr.pre_srt hT' 50001 [] T'.root hd') (Tr.pre_srt hT 50001 [] T.root hd) (fun e => ?_)
    obtain ⟨q, k⟩ := e
    rw [Tr.mem_pre hT' 50001 [] T'.root hd', Tr.mem_pre hT 50001 [] T.root hd]
    constructor
    · rintro ⟨l, h1, h2⟩; exact ⟨l, (h.at' l).symm.trans h1, h2⟩
    · rintro ⟨l, h1, h2⟩; exact ⟨l, (h.at' l).trans h1, h2⟩
  have key : ∀ (L : List Ent) (s : List UInt8 × Nat), (∀ e ∈ L, ∃ l, T.at l = some e.2) → bFold s (L.flatMap (lineAt T')) = bFold s (L.flatMap (lineAt T)) := by
    intro L
    induction L with
    | nil => intro s _; rfl
    | cons e L ih =>
      intro s hL
      rw [List.flatMap_cons, List.flatMap_cons, bFold_append, bFold_append]
      obtain ⟨l, hl⟩ := hL e (List.mem_cons_self ..)
      obtain ⟨d, d', h1, h2, h3, h4⟩ := h.nd l e.2 hl
      have e1 : lineAt T e = lineOf e.1 d := by unfold lineAt; rw [h1]
      have e2 : lineAt T' e = lineOf e.1 d' := by unfold lineAt; rw [h2]
      rw [e1, e2, ← bare_line s e.1 h3 h4]
      exact ih _ (fun e he => hL e (List.mem_cons_of_mem _ he))
  unfold bareL Tr.txt
  rw [Tr.text_pre, Tr.text_pre, hpre, key]
  intro e he
  obtain ⟨q, k⟩ := e
  obtain ⟨l, h1, _⟩ := (Tr.mem_pre hT 50001 [] T.root hd q k).1 he
  exact ⟨l, h1⟩

end

section
/-- Bounds of a tree's text, in numbers that a change of stamps keeps. -/
structure TxB (T : Tr) : Prop where
  deep : T.deep 50001 T.root
  paths : ∀ l k, T.at l = some k → l.length < 50001
  plen : ∀ e ∈ T.pre 50001 [] T.root, e.1.length ≤ 100000
  cnt : (T.pre 50001 [] T.root).length ≤ 90000
theorem TxOk.of_tm {T : Tr} (hI : TI T) {m : Int} (hM : TM T m) (hm : m ≤ 1000000) : TxOk T := by
  intro n d hn
  obtain ⟨t0, t1, t2⟩ := hI.num n d hn
  have hc := hM.clk1
  have hl : 0 ≤ d.links ∧ d.links ≤ 4611686018427387904 := by
    cases hd : d.dir with
    | true => rw [(hI.dirs n d hn hd).2]; decide
    | false =>
      have := hM.lk0 n d hn hd
      have := hM.lk1 n d hn hd
      omega
  have hdl := hI.data n d hn
  refine ⟨hl.1, hl.2, t0, by omega, by omega, by omega, fun p hp => ?_⟩
  have := (hI.tw.part n d p.1 p.2 hn hp).2
  omega
theorem TxB.txt {T : Tr} (h : TxB T) (hI : TI T) {m : Int} (hM : TM T m) (hm : m ≤ 1000000) : TxT T := by
  have hok := TxOk.of_tm hI hM hm
  refine ⟨hok, h.deep, ?_⟩
  unfold Tr.txt
  rw [Tr.text_pre]
  have h3 : ∀ (l : List Ent), (∀ e ∈ l, e.1.length ≤ 100000) → (l.flatMap (lineAt T)).length ≤ l.length * 100080 := by
    intro l
    induction l with
    | nil => intro _; simp
    | cons e l ih =>
      intro hl
      rw [List.flatMap_cons, List.length_append, List.length_cons]
      have a1 := ih (fun e he => hl e (List.mem_cons_of_mem _ he))
      have a2 : (lineAt T e).length ≤ 100080 := by
        unfold lineAt
        cases hd : T.nd e.2 with
        | none => simp
        | some d =>
          obtain ⟨k0, k1, k2, k3, k4, _⟩ := hok e.2 d hd
          have := lineOf_len e.1 k1 k3 k4
          have := hl e (List.mem_cons_self ..)
          dsimp only
          omega
      omega
  have := h3 _ h.plen
  have : (T.pre 50001 [] T.root).length * 100080 ≤ 90000 * 100080 := Nat.mul_le_mul_right _ h.cnt
  omega
theorem Bare.deep {T T' : Tr} (h : Bare T T') (hb : TxB T) (hT' : TW T') : T'.deep 50001 T'.root := by
  obtain ⟨d, hd, _⟩ := hT'.root
  refine Tr.deep_of hT' 50001 T'.root d hd (fun l k hl => ?_)
  exact hb.paths l k ((h.at' l).symm.trans hl)
theorem Bare.trans {T T' T'' : Tr} (h : Bare T T') (h' : Bare T' T'') : Bare T T'' := by
  refine ⟨fun l => (h'.at' l).trans (h.at' l), fun l n hl => ?_⟩
  obtain ⟨d, d1, a1, a2, a3, a4⟩ := h.nd l n hl
  obtain ⟨d1', d2, b1, b2, b3, b4⟩ := h'.nd l n ((h.at' l).trans hl)
  rw [a2] at b1
  cases b1
  exact ⟨d, d2, a1, b2, b3.trans a3, fun hf => by
    have h1 := a4 hf
    have h2 := b4 (a3.trans hf)
    exact ⟨h2.1.trans h1.1, h2.2.trans h1.2⟩⟩

/-! ### Stat's code -/
def Tr.cStat (T : Tr) (p : ByteArray) : Nat := match T.find p with
  | .error c => c
  | .ok s => match s.n with
    | none => 16
    | some _ => 0
/-- What is not there is written anew. -/
theorem PWrote.new {T T1 : Tr} {s : ByteArray} {b : List UInt8} {add : Bool} (h : PWrote T T1 s b add) (hs : T.cStat s ≠ 0) : PGrown T T1 s false b := by
  rcases h with ⟨h, _⟩ | ⟨l, k, d, b1, b2, b3, b4, b5, b6⟩
  · exact h
  · exfalso
    obtain ⟨sp, h1, h2⟩ := at_find b1 b2
    apply hs
    unfold Tr.cStat
    rw [h1]
    dsimp only
    rw [h2]

/-- What was made is taken away. -/
theorem PGrown.cRemove {T T1 : Tr} {s : ByteArray} {dir : Bool} {b : List UInt8} (hI : TI T) (h : PGrown T T1 s dir b) : T1.cRemove s = 0 := by
  obtain ⟨dp, nm, i, k, di, dk, a1, a2, a3, a4, a5, a6, a7, a8, a9, a10⟩ := h
  have hat1 := a7.at hI.tw a2 a3 a4 a5 a6
  have hne : dp ≠ dp ++ [nm] := fun e => by simpa using congrArg List.length e
  have hdp : T1.at dp = some i := by rw [hat1, if_neg hne, a2]
  have hl : look (di.names ++ [(nm, k)]) nm = some k := by
    have h3 : T1.at (dp ++ [nm]) = some k := by rw [hat1, if_pos rfl]
    rw [Tr.at_snoc, hdp] at h3
    have h3 : T1.hop i nm = some k := h3
    rwa [Tr.hop_dir a7.up a4] at h3
  have hf : T1.find s = .ok ⟨some i, nm, some k⟩ := by
    unfold Tr.find
    rw [a1]
    show T1.parts (dp ++ [nm]) = _
    rw [Tr.parts_dir hdp a7.up a4, hl]
  unfold Tr.cRemove
  rw [hf]
  dsimp only
  rw [a7.here]
  dsimp only
  rw [if_neg]
  rintro ⟨_, h⟩
  exact h a7.bare
/-- Where something was taken away, there is room. -/
theorem Bare.cMkdir {T T1 T2 : Tr} {s : ByteArray} {dir : Bool} {b : List UInt8} (hb : Bare T T2) (_hI2 : TW T2) (h : PGrown T T1 s dir b) (hc : T2.count < 200) : T2.cMkdir s = 0 := by
  obtain ⟨dp, nm, i, k, di, dk, a1, a2, a3, a4, a5, a6, a7, a8, a9, a10⟩ := h
  obtain ⟨d, d', b1, b2, b3, _⟩ := hb.nd dp i a2
  rw [a3] at b1
  cases b1
  have hdp : T2.at dp = some i := (hb.at' dp).trans a2
  have hdir := b3.trans a4
  have hl : look d'.names nm = none := by
    have h3 : T2.at (dp ++ [nm]) = none := by
      rw [hb.at', Tr.at_snoc, a2]
      show T.hop i nm = none
      rw [Tr.hop_dir a3 a4, a5]
    rw [Tr.at_snoc, hdp] at h3
    have h3 : T2.hop i nm = none := h3
    rwa [Tr.hop_dir b2 hdir] at h3
  have hf : T2.find s = .ok ⟨some i, nm, none⟩ := by
    unfold Tr.find
    rw [a1]
    show T2.parts (dp ++ [nm]) = _
    rw [Tr.parts_dir hdp b2 hdir, hl]
  unfold Tr.cMkdir
  rw [hf]
  dsimp only
  rw [if_neg (by omega)]
theorem PGrown.count {T T1 : Tr} {s : ByteArray} {dir : Bool} {b : List UInt8} (h : PGrown T T1 s dir b) : T1.count = T.count + 1 ∧ T1.clock = T.clock + 1 := by
  obtain ⟨dp, nm, i, k, di, dk, a1, a2, a3, a4, a5, a6, a7, a8, a9, a10⟩ := h
  exact ⟨a7.count, a7.clock⟩
theorem PPruned.tm {T T1 : Tr} {s : ByteArray} {m : Int} (_hI : TI T) (h : PPruned T T1 s) (hm : TM T m) (hc : 1 ≤ T.count) (hl : ∀ k d, FileAt T s k d → 1 ≤ d.links) : TM T1 (m + 1) := by
  obtain ⟨dp, nm, i, k, di, dk, b1, b2, b3, b4, b5, b6, b7, b8, b9⟩ := h
  have h1 := b9.clock
  have h2 := b9.count
  have h3 := hm.clk0
  have h4 := hm.clk1
  have h5 := hm.cnt0
  have h6 := hm.cnt1
  have h7 : (if dk.dir = true ∨ dk.links = 1 then (1 : Int) else 0) = 1 ∨ (if dk.dir = true ∨ dk.links = 1 then (1 : Int) else 0) = 0 := by split <;> simp
  have hat : T.at (dp ++ [nm]) = some k := by
    rw [Tr.at_snoc, b2]
    show T.hop i nm = some k
    rw [Tr.hop_dir b3 b4, b5]
  have key : ∀ n d, T1.nd n = some d → d.dir = false → 0 ≤ d.links ∧ d.links ≤ m + 1 := fun n d hn hd => by
    by_cases e1 : n = k
    · subst e1
      cases hfl : dk.dir with
      | true => rw [b9.dirs hfl] at hn; cases hn
      | false =>
        rw [b9.files hfl] at hn
        cases hn
        have q1 := hl n dk ⟨⟨_, b1, hat⟩, b6, hfl⟩
        have q2 := hm.lk1 n dk b6 hfl
        show 0 ≤ dk.links - 1 ∧ dk.links - 1 ≤ m + 1
        omega
    · by_cases e2 : n = i
      · subst e2
        rw [b9.up] at hn
        cases hn
        have hd : di.dir = false := hd
        rw [b4] at hd
        cases hd
      · rw [b9.oth n e2 e1] at hn
        have := hm.lk0 n d hn hd
        have := hm.lk1 n d hn hd
        omega
  exact ⟨by omega, by omega, by omega, by omega, fun n d hn hd => (key n d hn hd).1, fun n d hn hd => (key n d hn hd).2⟩
theorem PGrown.links {T T1 : Tr} {s : ByteArray} {dir : Bool} {b : List UInt8} (hI : TI T) (h : PGrown T T1 s dir b) : ∀ k d, FileAt T1 s k d → 1 ≤ d.links := by
  obtain ⟨dp, nm, i, k, di, dk, a1, a2, a3, a4, a5, a6, a7, a8, a9, a10⟩ := h
  intro n d hF
  obtain ⟨l, hc, ha⟩ := hF.path
  rw [a1] at hc
  obtain rfl := Option.some.inj hc
  rw [a7.at hI.tw a2 a3 a4 a5 a6, if_pos rfl] at ha
  obtain rfl := Option.some.inj ha
  have h1 := hF.nd
  rw [a7.here] at h1
  obtain rfl := Option.some.inj h1
  rw [a7.one hF.file]
  exact Int.le_refl _
end

section
/-- Stat's answer: the code, or what is there. -/
def SAns (E : Nat → Addr) (w : World) (c : Nat) (v : Value) (e : Ending) (w' : World) : Prop :=
  (c ≠ 0 ∧ ∃ a, e = .returned (.tuple #[statV 0 0 0 0, failV a]) ∧ Failed E w.heap.size w' a c ∧ Below w.heap.size w w') ∨ (c = 0 ∧ e = .returned (.tuple #[v, .nilIface]) ∧ Below w.heap.size w w')

theorem four_sets {w W : World} {b : Nat} (hb : Below w.heap.size w W) (hw : w.heap.size ≤ b) (hh : W.heap[b]? = some (.cells #[.int .i64 0, .int .i64 0, .int .i64 0, .int .i64 0] 30 (0, 0))) (x y z u : Value) :
    Below w.heap.size w ((((W.setCell ⟨b, 0, none⟩ x).setCell ⟨b, 1, none⟩ y).setCell ⟨b, 2, none⟩ z).setCell ⟨b, 3, none⟩ u) ∧
      ((((W.setCell ⟨b, 0, none⟩ x).setCell ⟨b, 1, none⟩ y).setCell ⟨b, 2, none⟩ z).setCell ⟨b, 3, none⟩ u).heap[b]? = some (.cells #[x, y, z, u] 30 (0, 0)) :=
  ⟨hb.trans ((((((Kept.refl (fun k => k = b) W).setCell (p := ⟨b, 0, none⟩) (.inl rfl) x).setCell (p := ⟨b, 1, none⟩) (.inl rfl) y).setCell (p := ⟨b, 2, none⟩) (.inl rfl) z).setCell (p := ⟨b, 3, none⟩) (.inl rfl) u).below (B := w.heap.size) (fun k hk => by omega) hb.size),
    heap_set_same (heap_set_same (heap_set_same (heap_set_same hh 0 x) 1 y) 2 z) 3 u⟩
theorem Failed.sets {E : Nat → Addr} {L : Nat} {W : World} {a c b : Nat} (h : Failed E L W a c) (hb : b < L) (x y z u : Value) : Failed E L ((((W.setCell ⟨b, 0, none⟩ x).setCell ⟨b, 1, none⟩ y).setCell ⟨b, 2, none⟩ z).setCell ⟨b, 3, none⟩ u) a c :=
  h.kept (((((Kept.refl (fun k => k = b) W).setCell (p := ⟨b, 0, none⟩) (.inl rfl) x).setCell (p := ⟨b, 1, none⟩) (.inl rfl) y).setCell (p := ⟨b, 2, none⟩) (.inl rfl) z).setCell (p := ⟨b, 3, none⟩) (.inl rfl) u) (fun k hk => by omega)

set_option maxRecDepth 100000 in
set_option maxHeartbeats 4000000 in
theorem stat_err {E : Nat → Addr} {B : Nat} {T : Tr} (p : ByteArray) (w : World) (hE : Ctx E B w) (hR : Rep B w T) (hsz : p.size ≤ 9223372036854775807) (c : Nat) (hf : T.find p = .error c) (v : Value) :
    Calls Tryz.prog 16 #[.pointer (some ⟨T.tb, 0, none⟩), .string p] w fun e w' => SAns E w c v e w' := by
  have HF : Hid (Calls Tryz.prog 67 #[.pointer (some ⟨T.tb, 0, none⟩), .string p] (w.alloc (.cells #[.int .i64 0, .int .i64 0, .int .i64 0, .int .i64 0] 30)) fun e w' => FindPost E (w.alloc (.cells #[.int .i64 0, .int .i64 0, .int .i64 0, .int .i64 0] 30)) (.error c) e w') := by
    have h := find_any p (w.alloc (.cells #[.int .i64 0, .int .i64 0, .int .i64 0, .int .i64 0] 30)) (hE.below (below_alloc _ _)) (hR.below (below_alloc _ _)) hsz
    rw [hf] at h
    exact h
  have HC : Hid (c ≠ 0) := by
    show c ≠ 0
    rcases find_err_ne hf with h | h <;> omega
  clear hE hR hf
  go_enter Tryz.func16, Tryz.ntmps16
  go_wp2_with fail
  refine HF.out.mono ?_
  rintro e w1 ⟨hb1, a, rfl, hfl⟩
  have HB1 := Lib.hid hb1
  have HFL := Lib.hid hfl
  have HST : Hid (w1.heap[w.heap.size]? = some (.cells #[.int .i64 0, .int .i64 0, .int .i64 0, .int .i64 0] 30 (0, 0))) := by
    have h := heap_alloc_new w (.cells #[.int .i64 0, .int .i64 0, .int .i64 0, .int .i64 0] 30)
    exact below_heap hb1 (lt_of_heap h) h
  clear hb1 hfl HF
  simp only [spotV, spot0, ptrV_none]
  obtain ⟨w3, hw3⟩ : ∃ w3, w3 = w1.alloc (.cells #[.pointer none, .string ByteArray.empty, .pointer none] 135) := ⟨_, rfl⟩
  have HW3 := Lib.hid hw3
  have hb3 : Below w1.heap.size w1 w3 := by rw [hw3]; exact below_alloc w1 _
  have HBX : Hid (Below w.heap.size w w3) := (below_alloc w (.cells #[.int .i64 0, .int .i64 0, .int .i64 0, .int .i64 0] 30)).trans ((below_trans HB1.out hb3).mono (below_alloc _ _).size)
  have HSX : Hid (w3.heap[w.heap.size]? = some (.cells #[.int .i64 0, .int .i64 0, .int .i64 0, .int .i64 0] 30 (0, 0))) := below_heap hb3 (lt_of_heap HST.out) HST.out
  have HFX : Hid (Failed E (w.heap.size + 1) w3 a c) := by
    have h := HFL.out.kept (Kept.of_below hb3 (fun _ => False)) (fun _ h => h.elim)
    rwa [show (w.alloc (.cells #[.int .i64 0, .int .i64 0, .int .i64 0, .int .i64 0] 30)).heap.size = w.heap.size + 1 by simp] at h
  clear hw3 hb3
  go_upto_region 3 with fail
  rw [← HW3.out]
  clear HW3 HB1 HST HFL
  have s0 := cell_of (o := 0) HSX.out rfl
  have s1 := cell_of (o := 1) HSX.out rfl
  have s2 := cell_of (o := 2) HSX.out rfl
  have s3 := cell_of (o := 3) HSX.out rfl
  have sf := fun o => free_of HSX.out o
  obtain ⟨hx, hy⟩ := four_sets HBX.out (Nat.le_refl _) HSX.out (.int .i64 0) (.int .i64 0) (.int .i64 0) (.int .i64 0)
  have HX := Lib.hid hx
  have HY := Lib.hid hy
  have HFY := Lib.hid (HFX.out.sets (b := w.heap.size) (Nat.lt_succ_self _) (.int .i64 0) (.int .i64 0) (.int .i64 0) (.int .i64 0))
  clear hx hy
  go_wp2_with fail
  clear s0 s1 s2 s3 sf
  generalize (((w3.setCell ⟨w.heap.size, 0, none⟩ (.int .i64 0)).setCell ⟨w.heap.size, 1, none⟩ (.int .i64 0)).setCell ⟨w.heap.size, 2, none⟩ (.int .i64 0)).setCell ⟨w.heap.size, 3, none⟩ (.int .i64 0) = W at *
  have r0 := cell_of (o := 0) HY.out rfl
  have r1 := cell_of (o := 1) HY.out rfl
  have r2 := cell_of (o := 2) HY.out rfl
  have r3 := cell_of (o := 3) HY.out rfl
  refine bodyPost_ret (v := .tuple #[statV 0 0 0 0, failV a]) ?_ rfl (.inl ⟨HC.out, a, rfl, HFY.out.mono (Nat.le_succ _), HX.out⟩)
  simp [results, Tryz.results16, go_sem, r0, r1, r2, r3, statV]

set_option maxRecDepth 100000 in
set_option maxHeartbeats 4000000 in
theorem stat_none {E : Nat → Addr} {B : Nat} {T : Tr} (p : ByteArray) (w : World) (hE : Ctx E B w) (hR : Rep B w T) (hsz : p.size ≤ 9223372036854775807) (s : Spot) (hf : T.find p = .ok s) (hk : s.n = none) (v : Value) :
    Calls Tryz.prog 16 #[.pointer (some ⟨T.tb, 0, none⟩), .string p] w fun e w' => SAns E w 16 v e w' := by
  have HF : Hid (Calls Tryz.prog 67 #[.pointer (some ⟨T.tb, 0, none⟩), .string p] (w.alloc (.cells #[.int .i64 0, .int .i64 0, .int .i64 0, .int .i64 0] 30)) fun e w' => FindPost E (w.alloc (.cells #[.int .i64 0, .int .i64 0, .int .i64 0, .int .i64 0] 30)) (.ok s) e w') := by
    have h := find_any p (w.alloc (.cells #[.int .i64 0, .int .i64 0, .int .i64 0, .int .i64 0] 30)) (hE.below (below_alloc _ _)) (hR.below (below_alloc _ _)) hsz
    rw [hf] at h
    exact h
  have HC : Hid ((16 : Nat) ≠ 0) := Lib.hid (by decide)
  have HE := Lib.hid hE
  obtain ⟨inn, nm, n⟩ := s
  simp only at hk
  subst hk
  clear hE hR hf
  go_enter Tryz.func16, Tryz.ntmps16
  go_wp2_with fail
  refine HF.out.mono ?_
  rintro e w1 ⟨hb1, rfl⟩
  have HB1 := Lib.hid hb1
  have HST : Hid (w1.heap[w.heap.size]? = some (.cells #[.int .i64 0, .int .i64 0, .int .i64 0, .int .i64 0] 30 (0, 0))) := by
    have h := heap_alloc_new w (.cells #[.int .i64 0, .int .i64 0, .int .i64 0, .int .i64 0] 30)
    exact below_heap hb1 (lt_of_heap h) h
  clear hb1 HF
  simp only [spotV, ptrV_none]
  unfold ptrV
  generalize inn.map (fun b => (⟨b, 0, none⟩ : Addr)) = ia
  have HB3 : Hid (∀ o, Below w.heap.size w (w1.alloc o)) := fun o => (below_alloc w (.cells #[.int .i64 0, .int .i64 0, .int .i64 0, .int .i64 0] 30)).trans ((below_trans HB1.out (below_alloc w1 o)).mono (below_alloc _ _).size)
  have HLT : Hid (∀ o, w.heap.size + 1 ≤ (w1.alloc o).heap.size) := fun o => by
    have h1 := lt_of_heap HST.out
    have h2 := (below_alloc w1 o).size
    show _ ≤ _
    omega
  go_wp2_with fail
  refine (tree_fail _ (HE.out.env.below (HB3.out _)) 16 (by unfold Used; omega)).mono ?_
  rintro e w4 ⟨a, rfl, hfl, hb4⟩
  have HFX : Hid (Failed E (w.heap.size + 1) w4 a 16) := hfl.mono (HLT.out _)
  have HBX : Hid (Below w.heap.size w w4) := below_trans (HB3.out _) hb4
  have HSX : Hid (w4.heap[w.heap.size]? = some (.cells #[.int .i64 0, .int .i64 0, .int .i64 0, .int .i64 0] 30 (0, 0))) := below_heap hb4 (Nat.lt_of_lt_of_le (lt_of_heap HST.out) (below_alloc w1 _).size) (below_heap (below_alloc w1 _) (lt_of_heap HST.out) HST.out)
  clear hfl hb4 HB1 HST HB3 HLT
  have s0 := cell_of (o := 0) HSX.out rfl
  have s1 := cell_of (o := 1) HSX.out rfl
  have s2 := cell_of (o := 2) HSX.out rfl
  have s3 := cell_of (o := 3) HSX.out rfl
  have sf := fun o => free_of HSX.out o
  obtain ⟨hx, hy⟩ := four_sets HBX.out (Nat.le_refl _) HSX.out (.int .i64 0) (.int .i64 0) (.int .i64 0) (.int .i64 0)
  have HX := Lib.hid hx
  have HY := Lib.hid hy
  have HFY := Lib.hid (HFX.out.sets (b := w.heap.size) (Nat.lt_succ_self _) (.int .i64 0) (.int .i64 0) (.int .i64 0) (.int .i64 0))
  clear hx hy
  go_wp2_with fail
  clear s0 s1 s2 s3 sf
  generalize (((w4.setCell ⟨w.heap.size, 0, none⟩ (.int .i64 0)).setCell ⟨w.heap.size, 1, none⟩ (.int .i64 0)).setCell ⟨w.heap.size, 2, none⟩ (.int .i64 0)).setCell ⟨w.heap.size, 3, none⟩ (.int .i64 0) = W at *
  have r0 := cell_of (o := 0) HY.out rfl
  have r1 := cell_of (o := 1) HY.out rfl
  have r2 := cell_of (o := 2) HY.out rfl
  have r3 := cell_of (o := 3) HY.out rfl
  refine bodyPost_ret (v := .tuple #[statV 0 0 0 0, failV a]) ?_ rfl (.inl ⟨HC.out, a, rfl, HFY.out.mono (Nat.le_succ _), HX.out⟩)
  simp [results, Tryz.results16, go_sem, r0, r1, r2, r3, statV]
end

section
set_option maxRecDepth 100000 in
set_option maxHeartbeats 4000000 in
theorem stat_dir {E : Nat → Addr} {B : Nat} {T : Tr} (p : ByteArray) (w : World) (hE : Ctx E B w) (hR : Rep B w T) (hsz : p.size ≤ 9223372036854775807) (s : Spot) (hf : T.find p = .ok s) (k : Nat) (d : Nd) (hk : s.n = some k) (hd : T.nd k = some d) (hdir : d.dir = true) :
    Calls Tryz.prog 16 #[.pointer (some ⟨T.tb, 0, none⟩), .string p] w fun e w' => StatPost w (statV 2 d.names.length 1 d.tick) e w' := by
  have HF : Hid (Calls Tryz.prog 67 #[.pointer (some ⟨T.tb, 0, none⟩), .string p] (w.alloc (.cells #[.int .i64 0, .int .i64 0, .int .i64 0, .int .i64 0] 30)) fun e w' => FindPost E (w.alloc (.cells #[.int .i64 0, .int .i64 0, .int .i64 0, .int .i64 0] 30)) (.ok s) e w') := by
    have h := find_any p (w.alloc (.cells #[.int .i64 0, .int .i64 0, .int .i64 0, .int .i64 0] 30)) (hE.below (below_alloc _ _)) (hR.below (below_alloc _ _)) hsz
    rw [hf] at h
    exact h
  have HR := Lib.hid hR
  have HD := Lib.hid hd
  obtain ⟨inn, nm, n⟩ := s
  simp only at hk
  subst hk
  clear hE hR hf
  go_enter Tryz.func16, Tryz.ntmps16
  go_wp2_with fail
  refine HF.out.mono ?_
  rintro e w1 ⟨hb1, rfl⟩
  have HB1 := Lib.hid hb1
  have HST : Hid (w1.heap[w.heap.size]? = some (.cells #[.int .i64 0, .int .i64 0, .int .i64 0, .int .i64 0] 30 (0, 0))) := by
    have h := heap_alloc_new w (.cells #[.int .i64 0, .int .i64 0, .int .i64 0, .int .i64 0] 30)
    exact below_heap hb1 (lt_of_heap h) h
  have HN1 := Lib.hid ((HR.out.below ((below_alloc _ _).trans (hb1.mono (below_alloc _ _).size))).node k d HD.out)
  have hz0 : w.heap.size < w1.heap.size := lt_of_heap HST.out
  have hkl : k < w1.heap.size := lt_of_heap HN1.out.cells
  clear hb1 HF HD hd
  simp only [spotV, ptrV_some]
  unfold ptrV
  generalize inn.map (fun b => (⟨b, 0, none⟩ : Addr)) = ia
  have HH : Hid ((w1.alloc (.cells #[.pointer ia, .string nm, .pointer (some ⟨k, 0, none⟩)] 135)).heap[w1.heap.size]? = some (.cells #[.pointer ia, .string nm, .pointer (some ⟨k, 0, none⟩)] 135 (0, 0))) := heap_alloc_new _ _
  have HK2 : Hid ((w1.alloc (.cells #[.pointer ia, .string nm, .pointer (some ⟨k, 0, none⟩)] 135)).heap[k]? = some (.cells #[.bool true, d.bv, .map (some d.mb), .int .i64 d.links, .int .i64 d.tick] 126 (0, 0))) := by
    have h := HN1.out.cells
    rw [show mapV d = .map (some d.mb) by simp [mapV, hdir], hdir] at h
    exact (Below.heap_alloc _ _ _ hkl).trans h
  have HM2 : Hid (MapAt (w1.alloc (.cells #[.pointer ia, .string nm, .pointer (some ⟨k, 0, none⟩)] 135)) d.mb d.names) := by
    obtain ⟨es, ck, hes, hkv⟩ := HN1.out.map hdir
    exact ⟨es, ck, (Below.heap_alloc _ _ _ (lt_of_heap hes)).trans hes, hkv⟩
  have HS2 : Hid ((w1.alloc (.cells #[.pointer ia, .string nm, .pointer (some ⟨k, 0, none⟩)] 135)).heap[w.heap.size]? = some (.cells #[.int .i64 0, .int .i64 0, .int .i64 0, .int .i64 0] 30 (0, 0))) := (Below.heap_alloc _ _ _ hz0).trans HST.out
  have HB2 : Hid (Below w.heap.size w (w1.alloc (.cells #[.pointer ia, .string nm, .pointer (some ⟨k, 0, none⟩)] 135))) := ((below_alloc _ _).trans (HB1.out.mono (below_alloc _ _).size)).alloc (Nat.le_of_lt hz0) _
  generalize hdl : d.names.length = dl at *
  generalize hdt : d.tick = dt at *
  generalize d.mb = mb at *
  generalize d.bv = bv at *
  generalize d.links = dk at *
  have HDL := Lib.hid hdl
  have HDT := Lib.hid hdt
  clear hdl hdt HN1 HST HB1 hdir
  have j0 := cell_of (o := 0) HK2.out rfl
  have jk : k ≠ w1.heap.size := by omega
  go_wp2_with fail
  clear j0
  generalize hW : (w1.alloc (.cells #[.pointer ia, .string nm, .pointer (some ⟨k, 0, none⟩)] 135)) = W at *
  have g2 : W.cell? ⟨w1.heap.size, 2, none⟩ = some (.pointer (some ⟨k, 0, none⟩)) := cell_of HH.out rfl
  have k0 : W.cell? ⟨k, 0, none⟩ = some (.bool true) := cell_of HK2.out rfl
  have k2 : W.cell? ⟨k, 2, none⟩ = some (.map (some mb)) := cell_of HK2.out rfl
  have k4 : W.cell? ⟨k, 4, none⟩ = some (.int .i64 dt) := cell_of HK2.out rfl
  have s0 : W.cell? ⟨w.heap.size, 0, none⟩ = some (.int .i64 0) := cell_of HS2.out rfl
  have s1 : W.cell? ⟨w.heap.size, 1, none⟩ = some (.int .i64 0) := cell_of HS2.out rfl
  have s2 : W.cell? ⟨w.heap.size, 2, none⟩ = some (.int .i64 0) := cell_of HS2.out rfl
  have s3 : W.cell? ⟨w.heap.size, 3, none⟩ = some (.int .i64 0) := cell_of HS2.out rfl
  have sf : ∀ o, W.frozen? ⟨w.heap.size, o, none⟩ = false := fun o => free_of HS2.out o
  have hsz2 : w.heap.size < W.heap.size := lt_of_heap HS2.out
  obtain ⟨es, ck, hes, hkv, _⟩ := HM2.out
  have hen : (es.size : Int) = dl := by
    have h1 := congrArg List.length hkv
    simp only [List.length_map, Array.length_toList] at h1
    have := HDL.out
    omega
  have hun : Tryz.prog.underlying 124 = some (.map (Tryz.prog.mapKeyOf 124) (Tryz.prog.mapElemOf 124)) := by kernel_rfl
  have hlen := run_len_map (P := Tryz.prog) (w := W.drew) 124 3 mb es ck hun hes
  rw [show goInt (es.size : Int) = .int .i64 dl by rw [hen]; rfl] at hlen
  clear hW hkv hes HM2 hen hun
  go_wp2_with fail
  have HW4 : Hid ((((((W.setCell ⟨w.heap.size, 0, none⟩ (.int .i64 2)).setCell ⟨w.heap.size, 1, none⟩ (.int .i64 dl)).setCell ⟨w.heap.size, 2, none⟩ (.int .i64 1)).setCell ⟨w.heap.size, 3, none⟩ (.int .i64 dt)).drew).heap[w.heap.size]? = some (.cells #[.int .i64 2, .int .i64 dl, .int .i64 1, .int .i64 dt] 30 (0, 0))) :=
    heap_set_same (heap_set_same (heap_set_same (heap_set_same HS2.out 0 _) 1 _) 2 _) 3 _
  have HB4 : Hid (Below w.heap.size w (((((W.setCell ⟨w.heap.size, 0, none⟩ (.int .i64 2)).setCell ⟨w.heap.size, 1, none⟩ (.int .i64 dl)).setCell ⟨w.heap.size, 2, none⟩ (.int .i64 1)).setCell ⟨w.heap.size, 3, none⟩ (.int .i64 dt)).drew)) :=
    (HB2.out.trans (((((Kept.refl (fun b => b = w.heap.size) W).setCell (p := ⟨w.heap.size, 0, none⟩) (.inl rfl) _).setCell (p := ⟨w.heap.size, 1, none⟩) (.inl rfl) _).setCell (p := ⟨w.heap.size, 2, none⟩) (.inl rfl) _).setCell (p := ⟨w.heap.size, 3, none⟩) (.inl rfl) _ |>.below (B := w.heap.size) (fun b hb => by omega) HB2.out.size)).drew
  go_region
  go_wp2_with fail
  have r0 := cell_of (o := 0) HW4.out rfl
  have r1 := cell_of (o := 1) HW4.out rfl
  have r2 := cell_of (o := 2) HW4.out rfl
  have r3 := cell_of (o := 3) HW4.out rfl
  refine bodyPost_ret (v := .tuple #[statV 2 dl 1 dt, .nilIface]) ?_ rfl ⟨?_, HB4.out⟩
  · generalize ((((W.setCell ⟨w.heap.size, 0, none⟩ (.int .i64 2)).setCell ⟨w.heap.size, 1, none⟩ (.int .i64 dl)).setCell ⟨w.heap.size, 2, none⟩ (.int .i64 1)).setCell ⟨w.heap.size, 3, none⟩ (.int .i64 dt)).drew = W4 at *
    simp [results, Tryz.results16, go_sem, r0, r1, r2, r3, statV]
  · rw [HDL.out, HDT.out]

/-- What Stat tells of what is there. -/
def ndStat (d : Nd) : Value := if d.dir then statV 2 d.names.length 1 d.tick else statV 1 d.data.length d.links d.tick
def Tr.vStat (T : Tr) (p : ByteArray) : Value := match T.find p with
  | .error _ => statV 0 0 0 0
  | .ok s => match s.n with
    | none => statV 0 0 0 0
    | some k => match T.nd k with
      | none => statV 0 0 0 0
      | some d => ndStat d
theorem vStat_form (T : Tr) (p : ByteArray) : ∃ a b c d, T.vStat p = statV a b c d := by
  unfold Tr.vStat
  split
  · exact ⟨_, _, _, _, rfl⟩
  · split
    · exact ⟨_, _, _, _, rfl⟩
    · split
      · exact ⟨_, _, _, _, rfl⟩
      · unfold ndStat
        split
        · exact ⟨_, _, _, _, rfl⟩
        · exact ⟨_, _, _, _, rfl⟩

theorem stat_any {E : Nat → Addr} {B : Nat} {T : Tr} (p : ByteArray) (w : World) (hE : Ctx E B w) (hR : Rep B w T) (hI : TI T) (hsz : p.size ≤ 9223372036854775807) :
    Calls Tryz.prog 16 #[.pointer (some ⟨T.tb, 0, none⟩), .string p] w fun e w' => SAns E w (T.cStat p) (T.vStat p) e w' := by
  unfold Tr.cStat Tr.vStat
  cases hf : T.find p with
  | error c => exact stat_err p w hE hR hsz c hf _
  | ok s =>
    dsimp only
    cases hn : s.n with
    | none => exact stat_none p w hE hR hsz s hf hn _
    | some k =>
      dsimp only
      obtain ⟨l, _, ha, _⟩ := find_ok hf
      rw [hn] at ha
      obtain ⟨d, hd⟩ := hI.tw.there ha
      rw [hd]
      dsimp only
      unfold ndStat
      cases hdir : d.dir with
      | true =>
        rw [if_pos rfl]
        exact (stat_dir p w hE hR hsz s hf k d hn hd hdir).mono fun e w' h => .inr ⟨rfl, h⟩
      | false =>
        rw [if_neg (by decide)]
        exact (stat_file p w hE hR hsz s hf k d hn hd hdir (hI.data k d hd)).mono fun e w' h => .inr ⟨rfl, h⟩
end
end Go.Proofs.YtjhojohjegkinaaGreatDoor
