/-
  One call at each of the two trees, beside a row of bytes that is neither's.
-/
import Derived.Test.YtjhojohjegkinaaGreatDoorLock
namespace Go.Proofs.YtjhojohjegkinaaGreatDoor
open Go Go.RowKit

/-- A row of bytes of neither tree. -/
structure Off (W : World) (T : Tr) (R : RT) (bv : Value) (b : List UInt8) : Prop where
  src : Src W bv b
  lt : ∀ x, bv.ownBlock = some x → x < W.heap.size
  offT : ∀ x, bv.ownBlock = some x → ¬ T.foot x
  offR : ∀ x n d, bv.ownBlock = some x → R.nd n = some d → d.dv.ownBlock ≠ some x
  u8 : ∀ x, bv.ownBlock = some x → ∃ c fz, W.heap[x]? = some (.cells c 5 fz)
theorem Off.nil (W : World) (T : Tr) (R : RT) : Off W T R (.slice none 0 0) [] :=
  ⟨.inl ⟨rfl, rfl⟩, fun _ h => (by cases h), fun _ h => (by cases h), fun _ _ _ h => (by cases h), fun _ h => (by cases h)⟩
theorem Off.foot {B : Nat} {W : World} {T : Tr} {R : RT} {bv : Value} {b : List UInt8} (h : Off W T R bv b) (hR : RRep B W R) : ∀ x, bv.ownBlock = some x → ¬ R.foot x := by
  intro x hx hf
  obtain ⟨c, fz, hc⟩ := h.u8 x hx
  rcases hf with h1 | hv | ⟨d, hd⟩ | ⟨n, d, hd, hv⟩
  · exact cells_ne_type hR.tree hc (by decide) h1.symm
  · obtain ⟨cur, hc'⟩ := owns_heap hR.rows hv
    exact cells_ne_type hc' hc (by decide) rfl
  · exact cells_ne_type (hR.node _ d hd).1 hc (by decide) rfl
  · exact h.offR x n d hx hd hv
theorem Off.kept {W W' : World} {T T' : Tr} {R R' : RT} {bv : Value} {b : List UInt8} {F : Nat → Prop} (h : Off W T R bv b) (k : Kept F W W') (hF : ∀ x, bv.ownBlock = some x → ¬ F x) (hT : ∀ x, T'.foot x → T.foot x ∨ W.heap.size ≤ x) (hR : RFresh W.heap.size R R') : Off W' T' R' bv b := by
  refine ⟨h.src.kept k (fun x hx hf => hF x hx hf), fun x hx => Nat.lt_of_lt_of_le (h.lt x hx) k.size, fun x hx hf => ?_, fun x n d hx hd hv => ?_, fun x hx => ?_⟩
  · rcases hT x hf with h1 | h1
    · exact h.offT x hx h1
    · have := h.lt x hx; omega
  · rcases hR n d x hd hv with h1 | ⟨y, e, h1, h2⟩
    · have := h.lt x hx; omega
    · exact h.offR x y e hx h1 h2
  · obtain ⟨c, fz, hc⟩ := h.u8 x hx
    exact ⟨c, fz, (k.block x (h.lt x hx) (hF x hx)).trans hc⟩
theorem Off.below {W W' : World} {T : Tr} {R : RT} {bv : Value} {b : List UInt8} (h : Off W T R bv b) (k : Below W.heap.size W W') : Off W' T R bv b :=
  h.kept (Kept.of_below k (fun _ => False)) (fun _ _ hf => hf) (fun _ hx => .inl hx) (RFresh.same _ _)

section
variable {E : Nat → Addr} {w : World} {tb rb k : Nat} {bv : Value} {b : List UInt8}
def Ql0 (w : World) (tb rb k : Nat) (bv : Value) (b : List UInt8) (T : Tr) (R : RT) (f : Nat → Nat) (W : World) : Prop := Both w.heap.size W T R f k ∧ T.tb = tb ∧ R.tb = rb ∧ Below w.heap.size w W ∧ Off W T R bv b
def Ql1 (E : Nat → Addr) (w : World) (tb rb k : Nat) (bv : Value) (b : List UInt8) (T : Tr) (R : RT) (f : Nat → Nat) (o : AOp) (y : Value) (W : World) : Prop :=
  ∃ T1 w0 w1, Half w.heap.size W T T1 R f k o ∧ Told E w0 T o (.returned y) w1 ∧ Below w1.heap.size w1 W ∧ T.tb = tb ∧ R.tb = rb ∧ Below w.heap.size w W ∧ Off W T1 R bv b
/-- Both trees, some. -/
def Ql (w : World) (tb rb k : Nat) (bv : Value) (b : List UInt8) (W : World) : Prop := ∃ T R f, Ql0 w tb rb k bv b T R f W
theorem Ql0.next {T : Tr} {R : RT} {f : Nat → Nat} {W W' : World} (h : Ql0 w tb rb k bv b T R f W) (hb : Below W.heap.size W W') : Ql0 w tb rb k bv b T R f W' := by
  obtain ⟨h1, h2, h3, h4, h5⟩ := h
  exact ⟨h1.below hb, h2, h3, h4.trans (hb.mono h1.base), h5.below hb⟩
theorem Ql1.next {T : Tr} {R : RT} {f : Nat → Nat} {o : AOp} {y : Value} {W W' : World} (h : Ql1 E w tb rb k bv b T R f o y W) (hb : Below W.heap.size W W') : Ql1 E w tb rb k bv b T R f o y W' := by
  obtain ⟨T1, w0, w1, h1, h2, h3, h4, h5, h6, h7⟩ := h
  exact ⟨T1, w0, w1, h1.below hb, h2, h3.trans (hb.mono h3.size), h4, h5, h6.trans (hb.mono h1.base), h7.below hb⟩
theorem Ql0.text {T : Tr} {R : RT} {f : Nat → Nat} {W : World} (h : Ql0 w tb rb k bv b T R f W) : Pl2 w tb rb k ⟨T.txt.toArray⟩ T.clock W := ⟨T, R, f, h.1, h.2.1, h.2.2.1, h.2.2.2.1, rfl, rfl⟩
theorem Ql0.low {T : Tr} {R : RT} {f : Nat → Nat} {W : World} (h : Ql0 w tb rb k bv b T R f W) : Below w.heap.size w W := h.2.2.2.1
theorem Ql1.low {T : Tr} {R : RT} {f : Nat → Nat} {o : AOp} {y : Value} {W : World} (h : Ql1 E w tb rb k bv b T R f o y W) : Below w.heap.size w W := h.choose_spec.choose_spec.choose_spec.2.2.2.2.2.1
theorem Ql0.half {T : Tr} {R : RT} {f : Nat → Nat} {W W' : World} {o : AOp} {e : Ending} (h : Ql0 w tb rb k bv b T R f W) (hx : TAns E w.heap.size W T (T.code o) (fun T' => PDone T T' o) e W') : ∃ y, e = .returned y ∧ Ql1 E w tb rb k bv b T R f o y W' := by
  obtain ⟨h1, h2, h3, h4, h5⟩ := h
  obtain ⟨y, rfl, _⟩ := hx.plain
  refine ⟨y, rfl, ?_⟩
  rcases id hx with ⟨h0, h0'⟩ | ⟨h0, he, T', q2, q3, q4, q5, q6⟩
  · obtain ⟨T1, hh, ht, hb⟩ := h1.half hx
    have hT : T1 = T := by
      rcases hh.case with ⟨_, h⟩ | ⟨h, _⟩
      · exact h
      · exact absurd h h0
    subst hT
    obtain ⟨a, _, _, hbl⟩ := h0'
    exact ⟨T1, W, W', hh, ht, Below.refl _ _, h2, h3, h4.trans hb, h5.below hbl⟩
  · have hoff : Off W' T' R bv b := h5.kept q3 (fun x hx' => h5.offT x hx') q4 (RFresh.same _ _)
    have hr : RRep w.heap.size W' R := h1.rrep.kept q3 (fun b hb hf => feet_apart h1.rep h1.rrep h1.apart b hf hb)
    refine ⟨T', W, W', ⟨q2, hr, h1.sim, h1.ti, h1.rn, ?_, .inr ⟨h0, q6⟩, q5, Nat.le_trans h1.base q3.size, h1.tg⟩, .inr ⟨h0, he⟩, Below.refl _ _, h2, h3, h4.trans (q3.below h1.rep.low h1.base), hoff⟩
    intro b' m d m' d' hm hm' hv hv'
    have hrf : R.foot b' := .inr (.inr (.inr ⟨m', d', hm', hv'⟩))
    rcases q4 b' (.inr (.inr ⟨m, d, hm, .inr hv⟩)) with h7 | h7
    · exact feet_apart h1.rep h1.rrep h1.apart b' h7 hrf
    · have := h1.rrep.lt hrf
      omega
theorem Ql1.both {T : Tr} {R : RT} {f : Nat → Nat} {W W' : World} {o : AOp} {y : Value} {e : Ending} (hk : k ≤ 70000) (h : Ql1 E w tb rb k bv b T R f o y W) (hm : ModelPost w.heap.size W R o e W') : e = .returned (codeV (T.code o)) ∧ Ql w tb rb (k + 1) bv b W' := by
  obtain ⟨T1, w0, w1, h1, h2, h3, h4, h5, h6, h7⟩ := h
  obtain ⟨R', f', hbo, hrb, htold, hb⟩ := h1.both hm (by omega)
  have he : e = .returned (codeV (T.code o)) := by
    rcases htold with ⟨h0, he⟩ | ⟨h0, he⟩
    · rw [he, h0]; rfl
    · rw [he, codeV_pos h0]
  refine ⟨he, ?_⟩
  have key : ∃ R'' f'', Both w.heap.size W' T1 R'' f'' (k + 1) ∧ R''.tb = R.tb ∧ RFresh W.heap.size R R'' := by
    rcases hm.case with ⟨c, hc, he, hrr, hme⟩ | ⟨he, R2, hrr, htb, hfr, hmo⟩
    · have hr : Rep w.heap.size W' T1 := h1.rep.kept hm.kept (fun b hb hf => feet_apart h1.rep h1.rrep h1.apart b hb hf)
      have hcode := h1.sim.code_err h1.ti.tw hme
      have hT : T1 = T := by
        rcases h1.case with ⟨_, h1⟩ | ⟨h1, _⟩
        · exact h1
        · exact absurd (hcode.symm.trans h1) hc
      have hap := h1.apart
      subst hT
      exact ⟨R, f, ⟨hr, hrr, h1.sim, h1.ti, h1.rn.mono (Nat.le_succ _), hap, Nat.le_trans h1.base hm.kept.size, h1.tg⟩, rfl, RFresh.same _ _⟩
    · have hr : Rep w.heap.size W' T1 := h1.rep.kept hm.kept (fun b hb hf => feet_apart h1.rep h1.rrep h1.apart b hb hf)
      have hcode := h1.sim.code_ok h1.ti.tw hmo
      have hP : PDone T T1 o := by
        rcases h1.case with ⟨h1, _⟩ | ⟨_, h1⟩
        · exact absurd hcode h1
        · exact h1
      obtain ⟨f2, hs⟩ := h1.sim.step h1.ti.tw hP hmo
      refine ⟨R2, f2, ⟨hr, hrr, hs, hP.ti h1.ti, hmo.rn h1.rn (by omega), ?_, Nat.le_trans h1.base hm.kept.size, hP.tg h1.ti h1.tg⟩, htb, hfr⟩
      intro b' m d m' d' hm1 hm2 hv hv'
      rcases hfr m' d' b' hm2 hv' with h8 | ⟨y, e, h8, h9⟩
      · have := h1.rep.lt (.inr (.inr ⟨m, d, hm1, .inr hv⟩))
        omega
      · exact h1.apart b' m d y e hm1 h8 hv h9
  obtain ⟨R2, f2, q1, q2, q3⟩ := key
  exact ⟨T1, R2, f2, q1, h1.tb.trans h4, q2.trans h5, h6.trans hb, h7.kept hm.kept (fun x hx => h7.foot h1.rrep x hx) (fun x hx => .inl hx) q3⟩
theorem ql_tell {T : Tr} {R : RT} {f : Nat → Nat} {o : AOp} {y : Value} {W : World} (hE : ∀ W, Below w.heap.size w W → Ctx E w.heap.size W) (hY : ∀ W, Below w.heap.size w W → Ety w.heap.size W) (h : Ql1 E w tb rb k bv b T R f o y W) :
    Calls Tryz.prog 29 #[y] W fun e w' => e = .returned (codeV (T.code o)) ∧ Ql1 E w tb rb k bv b T R f o y w' := by
  obtain ⟨T1, w0, w1, h1, h2, h3, h4, h5, h6, h7⟩ := id h
  exact (terr_tell h2 (code_le T o) h3 (hE W h6).env (hY W h6)).mono fun e w' ⟨he, hb⟩ => ⟨he, h.next hb⟩

/-! ### the calls -/
def oWrite (p : ByteArray) (c : List UInt8) (add : Bool) : AOp := ⟨if add then 2 else 1, p, ByteArray.empty, c⟩
def oMkdir (p : ByteArray) : AOp := ⟨0, p, ByteArray.empty, []⟩
def oLink (p q : ByteArray) : AOp := ⟨4, p, q, []⟩
def oRemove (p : ByteArray) : AOp := ⟨3, p, ByteArray.empty, []⟩
theorem code_write (T : Tr) (p : ByteArray) (c : List UInt8) (add : Bool) : T.code (oWrite p c add) = T.cWrite p c add := by cases add <;> rfl
theorem done_write {T T' : Tr} {p : ByteArray} {c : List UInt8} {add : Bool} (h : PWrote T T' p c add) : PDone T T' (oWrite p c add) := by
  cases add
  · exact .inr (.inl ⟨rfl, h⟩)
  · exact .inr (.inr (.inl ⟨rfl, h⟩))
theorem WritePost.model {B : Nat} {W W' : World} {R : RT} {p : ByteArray} {c : List UInt8} {add : Bool} {e : Ending} (h : WritePost B W R p c add e W') : ModelPost B W R (oWrite p c add) e W' := by
  refine ⟨h.kept, ?_⟩
  rcases h.parts with ⟨x, h0, h1, h2, h3⟩ | ⟨h1, R', h2, h3, h4, h5⟩
  · refine .inl ⟨x, h0, h1, h2, ?_⟩
    cases add
    · exact .inr (.inl ⟨rfl, h3⟩)
    · exact .inr (.inr (.inl ⟨rfl, h3⟩))
  · refine .inr ⟨h1, R', h2, h3, h4, ?_⟩
    cases add
    · exact .inr (.inl ⟨rfl, h5⟩)
    · exact .inr (.inr (.inl ⟨rfl, h5⟩))
theorem MkdirPost.model {B : Nat} {W W' : World} {R : RT} {p : ByteArray} {e : Ending} (h : MkdirPost B W R p e W') : ModelPost B W R (oMkdir p) e W' := by
  refine ⟨h.kept, ?_⟩
  rcases h.parts with ⟨x, h0, h1, h2, h3⟩ | ⟨h1, R', h2, h3, h4, h5⟩
  · exact .inl ⟨x, h0, h1, h2, .inl ⟨rfl, h3⟩⟩
  · exact .inr ⟨h1, R', h2, h3, h4, .inl ⟨rfl, h5⟩⟩
theorem LinkPost.model {B : Nat} {W W' : World} {R : RT} {p q : ByteArray} {e : Ending} (h : LinkPost B W R p q e W') : ModelPost B W R (oLink p q) e W' := by
  refine ⟨h.kept, ?_⟩
  rcases h.parts with ⟨x, h0, h1, h2, h3⟩ | ⟨h1, R', h2, h3, h4, h5⟩
  · exact .inl ⟨x, h0, h1, h2, .inr (.inr (.inr (.inr (.inl ⟨rfl, h3⟩))))⟩
  · exact .inr ⟨h1, R', h2, h3, h4, .inr (.inr (.inr (.inr (.inl ⟨rfl, h5⟩))))⟩
theorem RemovePost.model {B : Nat} {W W' : World} {R : RT} {p : ByteArray} {e : Ending} (h : RemovePost B W R p e W') : ModelPost B W R (oRemove p) e W' := by
  refine ⟨h.kept, ?_⟩
  rcases h.parts with ⟨x, h0, h1, h2, h3⟩ | ⟨h1, R', h2, h3, h4, h5⟩
  · exact .inl ⟨x, h0, h1, h2, .inr (.inr (.inr (.inl ⟨rfl, h3⟩)))⟩
  · exact .inr ⟨h1, R', h2, h3, h4, .inr (.inr (.inr (.inl ⟨rfl, h5⟩)))⟩

/-- The bytes of a write: none, or the row's. -/
def OneOf (bv : Value) (b : List UInt8) (cv : Value) (c : List UInt8) : Prop := (cv = .slice none 0 0 ∧ c = []) ∨ (cv = bv ∧ c = b)
theorem OneOf.off {W : World} {T : Tr} {R : RT} {cv : Value} {c : List UInt8} (h : OneOf bv b cv c) (ho : Off W T R bv b) : Off W T R cv c := by
  rcases h with ⟨rfl, rfl⟩ | ⟨rfl, rfl⟩
  · exact Off.nil W T R
  · exact ho
theorem ql_write {T : Tr} {R : RT} {f : Nat → Nat} {W : World} (hE : ∀ W, Below w.heap.size w W → Ctx E w.heap.size W) (p : ByteArray) (hp : p.size ≤ 9223372036854775807) {cv : Value} {c : List UInt8} (hc : OneOf bv b cv c) (add : Bool) (h : Ql0 w tb rb k bv b T R f W) :
    Calls Tryz.prog 18 #[.pointer (some ⟨tb, 0, none⟩), .string p, cv, .bool add] W fun e w' => ∃ y, e = .returned y ∧ Ql1 E w tb rb k bv b T R f (oWrite p c add) y w' := by
  obtain ⟨h1, h2, h3, h4, h5⟩ := id h
  have ho := hc.off h5
  have := write_any p cv c add W (hE W h4) h1.rep h1.ti h1.num hp ho.src (fun _ x hx => ho.offT x hx)
  rw [h2] at this
  exact this.mono fun e w' hx => h.half (hx.mono (code_write T p c add).symm (fun _ h => done_write h))
theorem ql_rwrite {T : Tr} {R : RT} {f : Nat → Nat} {W : World} (p : ByteArray) (hp : p.size ≤ 9223372036854775807) {cv : Value} {c : List UInt8} (hc : OneOf bv b cv c) (hcl : c.length ≤ 140737488355328) (add : Bool) (hk : k ≤ 70000) {y : Value} (h : Ql1 E w tb rb k bv b T R f (oWrite p c add) y W) :
    Calls Tryz.prog 36 #[.pointer (some ⟨rb, 0, none⟩), .string p, cv, .bool add] W fun e w' => e = .returned (codeV (T.code (oWrite p c add))) ∧ Ql w tb rb (k + 1) bv b w' := by
  obtain ⟨T1, w0, w1, h1, h2, h3, h4, h5, h6, h7⟩ := id h
  have ho := hc.off h7
  have := ref_write p cv c add W h1.rrep h1.rn.rb hp ho.src (by omega) (fun n d hn => by have := h1.rn.data n d hn; omega)
  rw [h5] at this
  exact this.mono fun e w' hx => h.both hk hx.model
theorem ql_mkdir {T : Tr} {R : RT} {f : Nat → Nat} {W : World} (hE : ∀ W, Below w.heap.size w W → Ctx E w.heap.size W) (p : ByteArray) (hp : p.size ≤ 9223372036854775807) (h : Ql0 w tb rb k bv b T R f W) :
    Calls Tryz.prog 20 #[.pointer (some ⟨tb, 0, none⟩), .string p] W fun e w' => ∃ y, e = .returned y ∧ Ql1 E w tb rb k bv b T R f (oMkdir p) y w' := by
  obtain ⟨h1, h2, h3, h4, h5⟩ := id h
  have := mkdir_any p W (hE W h4) h1.rep h1.num hp
  rw [h2] at this
  exact this.mono fun e w' hx => h.half (hx.mono rfl (fun _ h => .inl ⟨rfl, h⟩))
theorem ql_rmkdir {T : Tr} {R : RT} {f : Nat → Nat} {W : World} (p : ByteArray) (hp : p.size ≤ 9223372036854775807) (hk : k ≤ 70000) {y : Value} (h : Ql1 E w tb rb k bv b T R f (oMkdir p) y W) :
    Calls Tryz.prog 37 #[.pointer (some ⟨rb, 0, none⟩), .string p] W fun e w' => e = .returned (codeV (T.code (oMkdir p))) ∧ Ql w tb rb (k + 1) bv b w' := by
  obtain ⟨T1, w0, w1, h1, h2, h3, h4, h5, h6, h7⟩ := id h
  have := ref_mkdir p W h1.rrep h1.rn.rb hp
  rw [h5] at this
  exact this.mono fun e w' hx => h.both hk hx.model
theorem ql_link {T : Tr} {R : RT} {f : Nat → Nat} {W : World} (hE : ∀ W, Below w.heap.size w W → Ctx E w.heap.size W) (p q : ByteArray) (hp : p.size ≤ 9223372036854775807) (hq : q.size ≤ 9223372036854775807) (h : Ql0 w tb rb k bv b T R f W) :
    Calls Tryz.prog 25 #[.pointer (some ⟨tb, 0, none⟩), .string p, .string q] W fun e w' => ∃ y, e = .returned y ∧ Ql1 E w tb rb k bv b T R f (oLink p q) y w' := by
  obtain ⟨h1, h2, h3, h4, h5⟩ := id h
  have := link_any p q W (hE W h4) h1.rep h1.num hp hq
  rw [h2] at this
  exact this.mono fun e w' hx => h.half (hx.mono rfl (fun _ h => .inr (.inr (.inr (.inr (.inl ⟨rfl, h⟩))))))
theorem ql_rlink {T : Tr} {R : RT} {f : Nat → Nat} {W : World} (p q : ByteArray) (hp : p.size ≤ 9223372036854775807) (hq : q.size ≤ 9223372036854775807) (hk : k ≤ 70000) {y : Value} (h : Ql1 E w tb rb k bv b T R f (oLink p q) y W) :
    Calls Tryz.prog 38 #[.pointer (some ⟨rb, 0, none⟩), .string p, .string q] W fun e w' => e = .returned (codeV (T.code (oLink p q))) ∧ Ql w tb rb (k + 1) bv b w' := by
  obtain ⟨T1, w0, w1, h1, h2, h3, h4, h5, h6, h7⟩ := id h
  have := ref_link p q W h1.rrep h1.rn.rb hp hq
  rw [h5] at this
  exact this.mono fun e w' hx => h.both hk hx.model
end
end Go.Proofs.YtjhojohjegkinaaGreatDoor
