/-
 A kern's input: a read of it; a kern's Read from its input and from an open file.
-/
import Derived.Test.YteeeaeiafdgpkaaGreatDoorKCons
namespace Go.Proofs.YteeeaeiafdgpkaaGreatDoor
open Go Go.RowKit
open Go.Lib (hid)
theorem src_head {w : World} {ad : Addr} {c : Nat} {l : List UInt8} (h : Src w (.slice (some ad) l.length c) l) (m : Nat) (hm : m ≤ l.length) : Src w (.slice (some ad) m c) (l.take m) := by
 rcases h with ⟨h1, _⟩ | ⟨ad', c', h1, h2, h3⟩
 ·cases h1
 ·simp only [Value.slice.injEq, Option.some.injEq] at h1
  obtain ⟨rfl, _, rfl⟩ := h1
  have e : (l.take m).length = m := by simp; omega
  refine .inr ⟨ad, c, by rw [e], by omega, fun j hj => ?_⟩
  rw [List.getElem_take]
  exact h3 j (by omega)
theorem src_tail {w : World} {ad : Addr} {c : Nat} {l : List UInt8} (h : Src w (.slice (some ad) l.length c) l) (m : Nat) (hm : m ≤ l.length) : Src w (.slice (if c = m then some ad else some (ad.add m)) (l.length - m) (c - m)) (l.drop m) := by
 rcases h with ⟨h1, _⟩ | ⟨ad', c', h1, h2, h3⟩
 ·cases h1
 ·simp only [Value.slice.injEq, Option.some.injEq] at h1
  obtain ⟨rfl, _, rfl⟩ := h1
  have e : (l.drop m).length = l.length - m := by simp
  by_cases hcm : c = m
  ·rw [if_pos hcm]
   refine .inr ⟨ad, c - m, by rw [e], by omega, fun j hj => ?_⟩
   omega
  ·rw [if_neg hcm]
   refine .inr ⟨ad.add m, c - m, by rw [e], by omega, fun j hj => ?_⟩
   rw [Addr.add_add, List.getElem_drop]
   exact h3 (m + j) (by omega)
theorem add_block (ad : Addr) (m : Nat) : (ad.add m).block = ad.block := by unfold Addr.add; split <;> rfl
def IRPost (w : World) (ib : Nat) (iv : Value) (l : List UInt8) (m : Nat) (e : Ending) (w' : World) : Prop :=
 ∃ v v2, e = .returned (.tuple #[v, .nilIface]) ∧ w'.ownsRow w.heap.size 5 1 v (l.take m).length (u8s (l.take m)) ∧ w'.heap[ib]? = some (.cells #[v2] 66 (0, 0)) ∧ Src w' v2 (l.drop m) ∧ v2.ownBlock = iv.ownBlock ∧ Kept (fun x => x = ib) w w'
set_option maxRecDepth 100000 in
set_option maxHeartbeats 1000000 in
theorem iread_nil (ib n : Nat) (w : World) (h0 : w.heap[ib]? = some (.cells #[.slice none 0 0] 66 (0, 0))) :
  Calls Tryz.prog 173 #[.pointer (some ⟨ib, 0, none⟩), .int .i64 n] w fun e w' => IRPost w ib (.slice none 0 0) [] 0 e w' := by
 have g0 : w.cell? ⟨ib, 0, none⟩ = some (.slice none 0 0) := zaa h0 rfl
 have gf : w.frozen? ⟨ib, 0, none⟩ = false := zah h0 0
 have hm : min (n : Int) 0 = 0 := by omega
 have H0 := hid h0
 clear h0
 go_enter Tryz.func173, Tryz.ntmps173
 go_wp2_with (at_builtin; refine zas rfl _ _ rfl w.heap.size (.slice none 0 0) 0 [] rfl (World.ownsRow_nil _ _ _ _) (.slice none 0 0) [] rfl (Src.nil _) (by simp) (Nat.le_refl _) ?_)
 intro v w1 hown hgrow
 obtain ⟨va, vc, rfl⟩ := zak hown
 have H1 : Hid (w1.heap[ib]? = some (.cells #[.slice none 0 0] 66 (0, 0))) := (hgrow.block ib (zab H0.out) (by simp [Value.ownBlock])).trans H0.out
 have p0 : w1.cell? ⟨ib, 0, none⟩ = some (.slice none 0 0) := zaa H1.out rfl
 have pf : w1.frozen? ⟨ib, 0, none⟩ = false := zah H1.out 0
 have HFIN : Hid (IRPost w ib (.slice none 0 0) [] 0 (.returned (.tuple #[.slice va 0 vc, .nilIface])) (w1.setCell ⟨ib, 0, none⟩ (.slice none 0 0))) := by
  refine ⟨_, _, rfl, ?_, zaj H1.out 0 _, Src.nil _, rfl, ((Kept.refl (fun x => x = ib) w).grown hgrow (fun k hk => by cases hk)).setCell (p := ⟨ib, 0, none⟩) (.inl rfl) _⟩
  refine zai hown (Kept.setCell (F := fun x => x = ib) (Kept.refl _ _) (.inl rfl) _) (fun r hr he => ?_)
  have h1 := (hown.lt r hr).1
  have h2 := zab H0.out
  omega
 clear hown hgrow
 go_wp2_with fail
 go_ret2
 exact HFIN.out
set_option maxRecDepth 100000 in
set_option maxHeartbeats 1000000 in
theorem iread_some (ib n : Nat) (ad : Addr) (c : Nat) (l : List UInt8) (w : World) (h0 : w.heap[ib]? = some (.cells #[.slice (some ad) l.length c] 66 (0, 0))) (hs : Src w (.slice (some ad) l.length c) l)
  (hT : ∃ cs, w.heap[ad.block]? = some (.cells cs 5 (0, 0))) (hl : l.length ≤ 140737488355328) (m : Nat) (hm : m = min n l.length) :
  Calls Tryz.prog 173 #[.pointer (some ⟨ib, 0, none⟩), .int .i64 n] w fun e w' => IRPost w ib (.slice (some ad) l.length c) l m e w' := by
 have g0 : w.cell? ⟨ib, 0, none⟩ = some (.slice (some ad) l.length c) := zaa h0 rfl
 have gf : w.frozen? ⟨ib, 0, none⟩ = false := zah h0 0
 have hLc : l.length ≤ c := by
  rcases hs with ⟨h1, _⟩ | ⟨ad', c', h1, h2, _⟩
  ·cases h1
  ·simp only [Value.slice.injEq] at h1
   omega
 have hmn : min (n : Int) (l.length : Int) = m := by omega
 have hml : m ≤ l.length := by omega
 have hmc : m ≤ c := by omega
 have hmci : (m : Int) ≤ c := by omega
 have hmli : (m : Int) ≤ l.length := by omega
 have hne : ad.block ≠ ib := by
  obtain ⟨cs, hcs⟩ := hT
  exact zac hcs h0 (by decide)
 have HNE := hid hne
 have HS := hid hs
 have H0 := hid h0
 have HH := hid (src_head hs m hml)
 have HTL := hid (src_tail hs m hml)
 have htl : (l.take m).length = m := by simp; omega
 have HTLL := hid htl
 clear h0 hs hT hm hne htl
 go_enter Tryz.func173, Tryz.ntmps173
 by_cases hcm : c = m
 ·obtain rfl : m = l.length := by omega
  obtain rfl : c = l.length := hcm
  go_wp2_with (at_builtin; refine zas rfl _ _ rfl w.heap.size (.slice none 0 0) 0 [] rfl (World.ownsRow_nil _ _ _ _) (.slice (some ad) l.length l.length) (l.take l.length) rfl HH.out (by have := HTLL.out; omega) (Nat.le_refl _) ?_)
  intro v w1 hown hgrow
  obtain ⟨va, vc, rfl⟩ := zak hown
  have H1 : Hid (w1.heap[ib]? = some (.cells #[.slice (some ad) l.length l.length] 66 (0, 0))) := (hgrow.block ib (zab H0.out) (by simp [Value.ownBlock])).trans H0.out
  have p0 : w1.cell? ⟨ib, 0, none⟩ = some (.slice (some ad) l.length l.length) := zaa H1.out rfl
  have pf : w1.frozen? ⟨ib, 0, none⟩ = false := zah H1.out 0
  have HFIN : Hid (IRPost w ib (.slice (some ad) l.length l.length) l l.length (.returned (.tuple #[.slice va l.length vc, .nilIface])) (w1.setCell ⟨ib, 0, none⟩ (.slice (some ad) 0 0))) := by
   refine ⟨_, _, rfl, ?_, zaj H1.out 0 _, ?_, rfl, ((Kept.refl (fun x => x = ib) w).grown hgrow (fun k hk => by cases hk)).setCell (p := ⟨ib, 0, none⟩) (.inl rfl) _⟩
   ·rw [List.take_length]
    refine zai hown (Kept.setCell (F := fun x => x = ib) (Kept.refl _ _) (.inl rfl) _) (fun r hr he => ?_)
    have h1 := (hown.lt r hr).1
    have h2 := zab H0.out
    omega
   ·rw [List.drop_length]
    exact .inr ⟨ad, 0, rfl, Nat.le_refl _, fun j hj => absurd hj (Nat.not_lt_zero _)⟩
  clear hown hgrow
  go_wp2_with fail
  go_ret2
  exact HFIN.out
 ·go_wp2_with (at_builtin; refine zas rfl _ _ rfl w.heap.size (.slice none 0 0) 0 [] rfl (World.ownsRow_nil _ _ _ _) (.slice (some ad) m c) (l.take m) rfl HH.out (by have := HTLL.out; omega) (Nat.le_refl _) ?_)
  intro v w1 hown hgrow
  obtain ⟨va, vc, rfl⟩ := zak hown
  have H1 : Hid (w1.heap[ib]? = some (.cells #[.slice (some ad) l.length c] 66 (0, 0))) := (hgrow.block ib (zab H0.out) (by simp [Value.ownBlock])).trans H0.out
  have p0 : w1.cell? ⟨ib, 0, none⟩ = some (.slice (some ad) l.length c) := zaa H1.out rfl
  have pf : w1.frozen? ⟨ib, 0, none⟩ = false := zah H1.out 0
  have HFIN : Hid (IRPost w ib (.slice (some ad) l.length c) l m (.returned (.tuple #[.slice va m vc, .nilIface])) (w1.setCell ⟨ib, 0, none⟩ (.slice (if c = m then some ad else some (ad.add m)) (l.length - m) (c - m)))) := by
   refine ⟨_, _, rfl, ?_, zaj H1.out 0 _, ?_, ?_, ((Kept.refl (fun x => x = ib) w).grown hgrow (fun k hk => by cases hk)).setCell (p := ⟨ib, 0, none⟩) (.inl rfl) _⟩
   ·rw [HTLL.out]
    refine zai hown (Kept.setCell (F := fun x => x = ib) (Kept.refl _ _) (.inl rfl) _) (fun r hr he => ?_)
    have h1 := (hown.lt r hr).1
    have h2 := zab H0.out
    omega
   ·have hb : ∀ r, (Value.slice (if c = m then some ad else some (ad.add m)) (l.length - m) (c - m)).ownBlock = some r → r ≠ ib := fun r hr he => by
     split at hr
     ·simp only [Value.ownBlock, Option.some.injEq] at hr
      exact HNE.out (hr.trans he)
     ·simp only [Value.ownBlock, Option.some.injEq, add_block] at hr
      exact HNE.out (hr.trans he)
    have h1 := HTL.out.kept ((Kept.refl (fun x => x = ib) w).grown hgrow (fun k hk => by cases hk)) hb
    exact h1.kept (Kept.setCell (F := fun x => x = ib) (Kept.refl _ _) (.inl rfl) _) hb
   ·split
    ·rfl
    ·simp only [Value.ownBlock, add_block]
  clear hown hgrow
  go_wp2_with fail
  go_ret2
  have h := HFIN.out
  rw [if_neg hcm] at h
  exact h
theorem iread_any {B : Nat} {K : Ks} {w : World} (hK : KRep B w K) (n : Nat) (hl : K.inL.length ≤ 140737488355328) :
  Calls Tryz.prog 173 #[.pointer (some ⟨K.ib, 0, none⟩), .int .i64 n] w fun e w' => IRPost w K.ib K.inV K.inL (min n K.inL.length) e w' := by
 have h0 := hK.inp
 have hs := hK.inS
 rcases hs with ⟨h1, h2⟩ | ⟨ad, c, h1, h2⟩
 ·rw [h1] at h0 ⊢
  rw [h2]
  have e : min n ([] : List UInt8).length = 0 := by simp
  rw [e]
  exact iread_nil K.ib n w h0
 ·have hs' := hK.inS
  have hT := hK.inT
  rw [h1] at h0 hs' hT ⊢
  exact iread_some K.ib n ad c K.inL w h0 hs' (hT _ rfl) hl _ rfl
def KRPost (B : Nat) (w : World) (K K' : Ks) (l : List UInt8) (e : Ending) (w' : World) : Prop :=
 ∃ v, e = .returned (.tuple #[v, .nilIface]) ∧ w'.ownsRow w.heap.size 5 1 v l.length (u8s l) ∧ KRep B w' K' ∧ Kept K.foot w w' ∧ (∀ x, K'.foot x → K.foot x)
def KRPost' (B : Nat) (w : World) (K : Ks) (f : Value → Ks) (l : List UInt8) (e : Ending) (w' : World) : Prop := ∃ v, KRPost B w K (f v) l e w'
theorem KRep.setIn {B : Nat} {w w' : World} {K : Ks} (h : KRep B w K) {v : Value} {l : List UInt8} (h1 : w'.heap[K.ib]? = some (.cells #[v] 66 (0, 0))) (h2 : Src w' v l) (h3 : v.ownBlock = K.inV.ownBlock) (k : Kept (fun x => x = K.ib) w w') :
  KRep B w' { K with inV := v, inL := l } ∧ (∀ x, ({ K with inV := v, inL := l } : Ks).foot x → K.foot x) := by
 have ne : ∀ {x : Nat} {c : Array Value} {t : TypeId}, w.heap[x]? = some (.cells c t (0, 0)) → t ≠ 66 → ¬ (x = K.ib) := fun {x c t} hx ht he => zac hx h.inp ht he
 have own : ∀ x, ({ K with inV := v, inL := l } : Ks).own x → K.own x := by
  rintro x (h' | h' | h' | h' | h' | h' | h' | h' | h')
  ·exact .inl h'
  ·exact .inr (.inl h')
  ·exact .inr (.inr (.inl h'))
  ·exact .inr (.inr (.inr (.inl h')))
  ·exact .inr (.inr (.inr (.inr (.inl (h3.symm.trans h')))))
  ·exact .inr (.inr (.inr (.inr (.inr (.inl h')))))
  ·exact .inr (.inr (.inr (.inr (.inr (.inr (.inl h'))))))
  ·exact .inr (.inr (.inr (.inr (.inr (.inr (.inr (.inl h')))))))
  ·exact .inr (.inr (.inr (.inr (.inr (.inr (.inr (.inr h')))))))
 obtain ⟨ck, hk1, _⟩ := h.kern.cells
 refine ⟨⟨h.kern.kept k (ne hk1 (by decide)), h.tree.kept k (fun x hx hf => h.apart x (.inr (.inl hf)) hx), fun x hx => h.low x (own x hx), fun x hx => h.apart x (own x hx), h1, h2, fun r hr => ?_, (k.block _ (zab h.out) (ne h.out (by decide))).trans h.out, zai h.outS k (fun r hr hf => ?_), (k.block _ (zab h.err) (ne h.err (by decide))).trans h.err, zai h.errS k (fun r hr hf => ?_), h.two, h.rows1, fun r hr he => h.rows2 r hr (h3.symm.trans he), fun r hr he => h.rows3 r hr (h3.symm.trans he), fun x f hf => ⟨?_, ?_, (h.file x f hf).2.2⟩, h.goodFds⟩, fun x hx => ?_⟩
 ·obtain ⟨c, hc⟩ := h.inT r (h3.symm.trans hr)
  exact ⟨c, (k.block r (zab hc) (ne hc (by decide))).trans hc⟩
 ·obtain ⟨c, hc⟩ := zbd h.outS hr
  exact ne hc (by decide) hf
 ·obtain ⟨c, hc⟩ := zbd h.errS hr
  exact ne hc (by decide) hf
 ·exact (k.block _ (zab (h.file x f hf).1) (ne (h.file x f hf).1 (by decide))).trans (h.file x f hf).1
 ·exact (k.block _ (zab (h.file x f hf).2.1) (ne (h.file x f hf).2.1 (by decide))).trans (h.file x f hf).2.1
 ·rcases hx with hx | hx
  ·exact .inl (own x hx)
  ·exact .inr hx
set_option maxRecDepth 100000 in
set_option maxHeartbeats 1000000 in
theorem kread_in {B : Nat} {K : Ks} {w : World} (hK : KRep B w K) (fd n : Nat) (hfd : fd < 16) (h : K.fds fd = some (.inp K.ib)) (hl : K.inL.length ≤ 140737488355328) :
  Calls Tryz.prog 27 #[.pointer (some ⟨K.kb, 0, none⟩), .int .i64 fd, .int .i64 n] w fun e w' => ∃ v, KRPost B w K { K with inV := v, inL := K.inL.drop (min n K.inL.length) } (K.inL.take (min n K.inL.length)) e w' := by
 have HU : Hid (Calls Tryz.prog 53 #[.pointer (some ⟨K.kb, 0, none⟩), .int .i64 fd] w fun e w' => za9 w true e w') := by
  have h1 := za2 hK.kern fd
  rw [zbc hfd, h] at h1
  exact h1
 have hc : w.cell? ⟨K.kb, 1 + fd, none⟩ = some (.iface 65 (.pointer (some ⟨K.ib, 0, none⟩))) := by
  have h1 := hK.kern.fd fd hfd
  rw [h] at h1
  exact h1
 obtain ⟨L, hL⟩ : ∃ L, L = K.inL.take (min n K.inL.length) := ⟨_, rfl⟩
 have HLL := hid hL
 have HR := hid (iread_any hK n hl)
 have HKR := hid hK
 have hfi : (fd : Int) < 16 := by omega
 clear hK h hl
 show Calls _ _ _ _ (fun e w' => KRPost' B w K (fun v => { K with inV := v, inL := K.inL.drop (min n K.inL.length) }) (K.inL.take (min n K.inL.length)) e w')
 rw [← hL]
 clear hL
 go_enter Tryz.func27, Tryz.ntmps27
 go_wp2_with fail
 refine HU.out.mono ?_
 rintro e w1 ⟨rfl, rfl⟩
 go_wp2_with fail
 refine HR.out.mono ?_
 intro e w2 hp
 have HX : Hid (KRPost' B w1 K (fun v => { K with inV := v, inL := K.inL.drop (min n K.inL.length) }) L e w2) := by
  obtain ⟨v, v2, he, h1, h2, h3, h4, h5⟩ := hp
  rw [← HLL.out] at h1
  obtain ⟨q1, q2⟩ := HKR.out.setIn h2 h3 h4 h5
  exact ⟨v2, v, he, h1, q1, h5.mono (fun x hx => .inl (.inr (.inl hx))), q2⟩
 obtain ⟨v, v2, rfl, hrow, _⟩ := hp
 rw [← HLL.out] at hrow
 obtain ⟨va, vc, rfl⟩ := zak hrow
 clear hrow
 go_wp2_with fail
 go_ret2
 exact HX.out
end Go.Proofs.YteeeaeiafdgpkaaGreatDoor
