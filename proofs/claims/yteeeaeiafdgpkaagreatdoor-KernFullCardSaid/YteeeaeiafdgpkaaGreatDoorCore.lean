/-
 HEAP LEMMAS: what a call leaves of the blocks that it does not own ('Kept'), blocks known whole. No program in sight.
 THE PLAIN WORDS: a path's parts, as tree.Clean makes them. No program in sight.
 THE ERRORS: what fault.Of, fault.At, fault.In and the two fail functions give, for the codes that tree and kern use.
-/
import Derived.WalkKit
import Derived.WalkSpells
import Derived.WalkLawsBesides
import Derived.Carry
import Derived.Lib.Split
import Derived.Test.YteeeaeiafdgpkaaGreatDoorProg
import Derived.Outline
namespace Go.Proofs.YteeeaeiafdgpkaaGreatDoor
open Go Go.RowKit
section
structure Kept (F : Nat → Prop) (w w' : World) : Prop where
 os : w'.os = w.os
 tape : w'.tape = w.tape
 output : w'.output = w.output
 size : w.heap.size ≤ w'.heap.size
 block : ∀ k, k < w.heap.size → ¬ F k → w'.heap[k]? = w.heap[k]?
theorem Kept.refl (F : Nat → Prop) (w : World) : Kept F w w := ⟨rfl, rfl, rfl, Nat.le_refl _, fun _ _ _ => rfl⟩
theorem Kept.trans {F F1 : Nat → Prop} {a b c : World} (h : Kept F a b) (k : Kept F1 b c) (hF : ∀ i, F1 i → F i ∨ a.heap.size ≤ i) : Kept F a c :=
 ⟨k.os.trans h.os, k.tape.trans h.tape, k.output.trans h.output, Nat.le_trans h.size k.size, fun i hi hn =>
  (k.block i (Nat.lt_of_lt_of_le hi h.size) (fun hf => by rcases hF i hf with h1 | h1; exact hn h1; omega)).trans (h.block i hi hn)⟩
theorem Kept.mono {F F1 : Nat → Prop} {w w' : World} (h : Kept F w w') (hF : ∀ i, F i → F1 i) : Kept F1 w w' :=
 ⟨h.os, h.tape, h.output, h.size, fun i hi hn => h.block i hi fun hf => hn (hF i hf)⟩
theorem Kept.drew {F : Nat → Prop} {a w : World} (h : Kept F a w) : Kept F a w.drew := ⟨h.os, h.tape, h.output, h.size, h.block⟩
theorem Kept.alloc {F : Nat → Prop} {a w : World} (h : Kept F a w) (o : Obj) : Kept F a (w.alloc o) :=
 h.trans (F1 := fun _ => False) ⟨rfl, rfl, rfl, by simp, fun k hk _ => Below.heap_alloc w o k hk⟩ (fun _ hf => hf.elim)
theorem Kept.setCell {F : Nat → Prop} {a w : World} (h : Kept F a w) {p : Addr} (hp : F p.block ∨ a.heap.size ≤ p.block) (u : Value) : Kept F a (w.setCell p u) :=
 h.trans (F1 := fun i => i = p.block) ⟨rfl, rfl, rfl, by simp [World.setCell], fun k _ hn => Below.heap_setCell w p u k hn⟩ (fun i hi => by subst hi; exact hp)
theorem Kept.grown {F : Nat → Prop} {a w w' : World} {row : Option Nat} (h : Kept F a w) (hg : w.grownBy w' row) (hr : ∀ k, row = some k → F k ∨ a.heap.size ≤ k) : Kept F a w' :=
 h.trans (F1 := fun i => row = some i) ⟨hg.os, hg.tape, hg.output, hg.size, fun k hk hn => hg.block k hk (fun e => hn e.symm)⟩ (fun i hi => hr i hi)
theorem Kept.of_below {w w' : World} (h : Below w.heap.size w w') (F : Nat → Prop) : Kept F w w' :=
 ⟨h.os, h.tape, h.output, h.size, fun k hk _ => h.block k hk⟩
theorem Kept.below {F : Nat → Prop} {w w' : World} {B : Nat} (h : Kept F w w') (hF : ∀ b, F b → B ≤ b) (hB : B ≤ w.heap.size) : Below B w w' :=
 ⟨h.os, h.tape, h.output, h.size, fun k hk => h.block k (by omega) (fun hf => by have := hF k hf; omega)⟩
theorem Kept.then_below {F : Nat → Prop} {a w w' : World} (h : Kept F a w) (k : Below w.heap.size w w') : Kept F a w' :=
 h.trans (Kept.of_below k (fun _ => False)) (fun _ hf => hf.elim)
theorem Kept.cell {F : Nat → Prop} {w w' : World} (h : Kept F w w') {p : Addr} (hp : p.block < w.heap.size) (hn : ¬ F p.block) : w'.cell? p = w.cell? p :=
 World.cell?_of_block (w := w) (h.block p.block hp hn)
theorem Kept.frozen {F : Nat → Prop} {w w' : World} (h : Kept F w w') {p : Addr} (hp : p.block < w.heap.size) (hn : ¬ F p.block) : w'.frozen? p = w.frozen? p :=
 World.frozen?_of_block (w := w) (h.block p.block hp hn)
theorem zae {B : Nat} {w w' : World} (h : Below B w w') {b : Nat} {o : Obj} (hb : b < B) (ho : w.heap[b]? = some o) : w'.heap[b]? = some o := (h.block b hb).trans ho
theorem zab {w : World} {b : Nat} {o : Obj} (h : w.heap[b]? = some o) : b < w.heap.size := (Array.getElem?_eq_some_iff.1 h).1
theorem zaa {w : World} {b : Nat} {c : Array Value} {t : TypeId} {f : Nat × Nat} (h : w.heap[b]? = some (.cells c t f)) {o : Nat} {v : Value} (hc : c[o]? = some v) : w.cell? ⟨b, o, none⟩ = some v := by
 simp [World.cell?, h, hc]
theorem zah {w : World} {b : Nat} {c : Array Value} {t : TypeId} (h : w.heap[b]? = some (.cells c t (0, 0))) (o : Nat) : w.frozen? ⟨b, o, none⟩ = false := by
 simp [World.frozen?, h]
theorem zaj {w : World} {b : Nat} {c : Array Value} {t : TypeId} {f : Nat × Nat} (h : w.heap[b]? = some (.cells c t f)) (o : Nat) (v : Value) :
  (w.setCell ⟨b, o, none⟩ v).heap[b]? = some (.cells (c.setIfInBounds o v) t f) := by
 simp [World.setCell, Array.getElem?_modify, h]
theorem zag (w : World) (a : Addr) (v : Value) {b : Nat} (h : b ≠ a.block) : (w.setCell a v).heap[b]? = w.heap[b]? := Below.heap_setCell w a v b h
theorem zad (w : World) (o : Obj) : Below w.heap.size w (w.alloc o) := (Below.refl _ w).alloc (Nat.le_refl _) o
theorem zaf {a b c : World} (h : Below a.heap.size a b) (k : Below b.heap.size b c) : Below a.heap.size a c := h.trans (k.mono h.size)
theorem zam {w : World} {a b : Nat} {c : Array Value} {t : TypeId} {f : Nat × Nat} {es : Array MapEntry} {k : Nat} (h : w.heap[a]? = some (.cells c t f)) (h' : w.heap[b]? = some (.map es k)) : a ≠ b := by
 rintro rfl
 rw [h] at h'
 cases h'
theorem zac {w : World} {a b : Nat} {c c' : Array Value} {t t' : TypeId} {f f' : Nat × Nat} (h : w.heap[a]? = some (.cells c t f)) (h' : w.heap[b]? = some (.cells c' t' f')) (ht : t ≠ t') : a ≠ b := by
 rintro rfl
 rw [h] at h'
 simp only [Option.some.injEq, Obj.cells.injEq] at h'
 exact ht h'.2.1
theorem zdy (w : World) (b : Nat) : w.drew.heap[b]? = w.heap[b]? := rfl
end
section
def zdm : ByteArray := ⟨#[47]⟩
def step (out : List ByteArray) (s : ByteArray) : List ByteArray :=
 if s.toList.isEmpty = true then out else if (s.toList == [46]) = true then out else if (s.toList == [46, 46]) = true then out.dropLast else out ++ [s]
theorem step_empty {out : List ByteArray} {s : ByteArray} (h : s.toList.isEmpty = true) : step out s = out := by simp only [step, h, if_true]
theorem step_dot {out : List ByteArray} {s : ByteArray} (h : s.toList.isEmpty = false) (h1 : (s.toList == [46]) = true) : step out s = out := by
 unfold step; rw [if_neg (by rw [h]; decide), if_pos h1]
theorem step_dots {out : List ByteArray} {s : ByteArray} (h : s.toList.isEmpty = false) (h1 : (s.toList == [46]) = false) (h2 : (s.toList == [46, 46]) = true) : step out s = out.dropLast := by
 unfold step; rw [if_neg (by rw [h]; decide), if_neg (by rw [h1]; decide), if_pos h2]
theorem step_more {out : List ByteArray} {s : ByteArray} (h : s.toList.isEmpty = false) (h1 : (s.toList == [46]) = false) (h2 : (s.toList == [46, 46]) = false) : step out s = out ++ [s] := by
 unfold step; rw [if_neg (by rw [h]; decide), if_neg (by rw [h1]; decide), if_neg (by rw [h2]; decide)]
theorem ze6 (out : List ByteArray) (s : ByteArray) : (step out s).length ≤ out.length + 1 := by
 unfold step; repeat' split
 all_goals simp <;> omega
def zbe (p : ByteArray) : List ByteArray := Lib.splitB zdm 0 (Lib.countB p zdm) p
def fold (l : List ByteArray) : List ByteArray := l.foldl step []
def long (l : List ByteArray) : Bool := l.any (fun s => 64 < s.size)
def zbj (p : ByteArray) : Bool := p.size < 1 || 256 < p.size || Lib.indexByte p.data.toList 0 != -1
def zbh (p : ByteArray) : Option (List ByteArray) :=
 if zbj p then none else if long (fold (zbe p)) then none else some (fold (zbe p))
theorem zfc (l : List ByteArray) : (fold l).length ≤ l.length := by
 suffices h : ∀ (l o : List ByteArray), (l.foldl step o).length ≤ o.length + l.length by simpa [fold] using h l []
 intro l
 induction l with
 | nil => intro o; simp
 | cons a l ih => intro o; have h1 := ih (step o a); have h2 := ze6 o a; simp only [List.foldl_cons, List.length_cons]; omega
theorem fold_snoc (l : List ByteArray) (s : ByteArray) : fold (l ++ [s]) = step (fold l) s := by simp [fold]
end
section
def gl : Nat → Nat
 | 1 => 1
 | 2 => 2
 | 3 => 3
 | 4 => 4
 | 5 => 5
 | 6 => 6
 | 7 => 7
 | 8 => 8
 | 9 => 9
 | 10 => 10
 | 11 => 12
 | 12 => 13
 | 13 => 14
 | 14 => 15
 | 15 => 16
 | 16 => 17
 | 17 => 18
 | 18 => 19
 | 19 => 20
 | 20 => 21
 | 21 => 22
 | _ => 0
def botV (a : Addr) : Value := .iface 265 (.pointer (some a))
structure Env (E : Nat → Addr) (B : Nat) (w : World) : Prop where
 size : B ≤ w.heap.size
 room : ∀ c, 1 ≤ c → c ≤ 21 → gl c < B ∧ (E c).block < B
 glob : ∀ c, 1 ≤ c → c ≤ 21 → w.cell? ⟨gl c, 0, none⟩ = some (botV (E c))
 unlike : ∀ c d, 1 ≤ c → c ≤ 21 → 1 ≤ d → d ≤ 21 → E c = E d → c = d
 body : ∀ c, 1 ≤ c → c ≤ 21 → ∃ cs t, w.heap[(E c).block]? = some (.cells cs t (0, 0))
theorem Env.kept {E : Nat → Addr} {B : Nat} {w w' : World} {F : Nat → Prop} (h : Env E B w) (k : Kept F w w') (hF : ∀ b, F b → B ≤ b) : Env E B w' :=
 ⟨Nat.le_trans h.size k.size, h.room, fun c h1 h2 => (k.cell (p := ⟨gl c, 0, none⟩) (Nat.lt_of_lt_of_le (h.room c h1 h2).1 h.size) (fun hf => by have h3 : B ≤ gl c := hF _ hf; have := (h.room c h1 h2).1; omega)).trans (h.glob c h1 h2), h.unlike, fun c h1 h2 => by
  obtain ⟨cs, t, hb⟩ := h.body c h1 h2
  exact ⟨cs, t, (k.block _ (zab hb) (fun hf => by have h3 : B ≤ (E c).block := hF _ hf; have := (h.room c h1 h2).2; omega)).trans hb⟩⟩
theorem Env.below {E : Nat → Addr} {B : Nat} {w w' : World} (h : Env E B w) (k : Below w.heap.size w w') : Env E B w' := h.kept (Kept.of_below k (fun _ => False)) (fun _ hf => hf.elim)
def zbu (E : Nat → Addr) (L : Nat) (w : World) (a : Nat) (c : Nat) : Prop :=
 ∃ b, L ≤ a ∧ L ≤ b ∧ w.heap[a]? = some (.cells #[.iface 127 (.pointer (some ⟨b, 0, none⟩)), .int .i64 11] 135 (0, 0)) ∧
  w.heap[b]? = some (.cells #[botV (E c), .int .i64 0] 131 (0, 0))
abbrev zcb (a : Nat) : Value := .iface 132 (.pointer (some ⟨a, 0, none⟩))
theorem zbu.kept {E : Nat → Addr} {L : Nat} {w w' : World} {a c : Nat} {F : Nat → Prop} (h : zbu E L w a c) (k : Kept F w w') (hF : ∀ b, F b → b < L) : zbu E L w' a c := by
 obtain ⟨b, l1, l2, h1, h2⟩ := h
 exact ⟨b, l1, l2, (k.block a (zab h1) (fun hf => by have := hF _ hf; omega)).trans h1, (k.block b (zab h2) (fun hf => by have := hF _ hf; omega)).trans h2⟩
theorem zbu.below {E : Nat → Addr} {L : Nat} {w w' : World} {a c : Nat} (h : zbu E L w a c) (k : Below w.heap.size w w') : zbu E L w' a c := by
 obtain ⟨b, l1, l2, h1, h2⟩ := h
 exact ⟨b, l1, l2, (k.block a (zab h1)).trans h1, (k.block b (zab h2)).trans h2⟩
theorem zbu.mono {E : Nat → Addr} {L L' : Nat} {w : World} {a c : Nat} (h : zbu E L w a c) (hl : L' ≤ L) : zbu E L' w a c := by
 obtain ⟨b, l1, l2, h1, h2⟩ := h
 exact ⟨b, by omega, by omega, h1, h2⟩
def Used (c : Nat) : Prop := c = 1 ∨ c = 15 ∨ c = 16 ∨ c = 17 ∨ c = 18 ∨ c = 19
theorem zcj {E : Nat → Addr} (w : World) (c : Nat) :
  zbu E w.heap.size ((w.alloc (.cells #[botV (E c), .int .i64 0] 131)).alloc (.cells #[.iface 127 (.pointer (some ⟨w.heap.size, 0, none⟩)), .int .i64 11] 135)) (w.heap.size + 1) c := by
 refine ⟨w.heap.size, by omega, Nat.le_refl _, ?_, ?_⟩
 ·have := heap_alloc_new (w.alloc (.cells #[botV (E c), .int .i64 0] 131)) (.cells #[.iface 127 (.pointer (some ⟨w.heap.size, 0, none⟩)), .int .i64 11] 135)
  simpa using this
 ·rw [Below.heap_alloc _ _ _ (by simp)]
  exact heap_alloc_new w _
theorem zar (w : World) (o p : Obj) : Below w.heap.size w ((w.alloc o).alloc p) :=
 ((Below.refl _ w).alloc (Nat.le_refl _) o).alloc (by simp) p
set_option maxHeartbeats 1000000 in
theorem zbl {E : Nat → Addr} {B : Nat} (w : World) (hE : Env E B w) (c : Nat) (hc : Used c) :
  Calls Tryz.prog 56 #[.int .i64 c] w fun e w' => ∃ a, e = .returned (zcb a) ∧ zbu E w.heap.size w' a c ∧ Below w.heap.size w w' := by
 rcases hc with rfl | rfl | rfl | rfl | rfl | rfl
 ·have h := hE.glob 1 (by omega) (by omega)
  simp only [gl, botV] at h
  clear hE
  go_enter Tryz.func56, Tryz.ntmps56
  go_wp2
  go_ret
  exact ⟨_, rfl, zcj w 1, zar w _ _⟩
 ·have h := hE.glob 15 (by omega) (by omega)
  simp only [gl, botV] at h
  clear hE
  go_enter Tryz.func56, Tryz.ntmps56
  go_wp2
  go_ret
  exact ⟨_, rfl, zcj w 15, zar w _ _⟩
 ·have h := hE.glob 16 (by omega) (by omega)
  simp only [gl, botV] at h
  clear hE
  go_enter Tryz.func56, Tryz.ntmps56
  go_wp2
  go_ret
  exact ⟨_, rfl, zcj w 16, zar w _ _⟩
 ·have h := hE.glob 17 (by omega) (by omega)
  simp only [gl, botV] at h
  clear hE
  go_enter Tryz.func56, Tryz.ntmps56
  go_wp2
  go_ret
  exact ⟨_, rfl, zcj w 17, zar w _ _⟩
 ·have h := hE.glob 18 (by omega) (by omega)
  simp only [gl, botV] at h
  clear hE
  go_enter Tryz.func56, Tryz.ntmps56
  go_wp2
  go_ret
  exact ⟨_, rfl, zcj w 18, zar w _ _⟩
 ·have h := hE.glob 19 (by omega) (by omega)
  simp only [gl, botV] at h
  clear hE
  go_enter Tryz.func56, Tryz.ntmps56
  go_wp2
  go_ret
  exact ⟨_, rfl, zcj w 19, zar w _ _⟩
end
theorem zz3 {w : World} {b : Nat} {x y z : Value} {t : TypeId} {f : Nat × Nat} (h : w.heap[b]? = some (.cells #[x, y, z] t f)) : w.cell? ⟨b, 0, none⟩ = some x ∧ w.cell? ⟨b, 1, none⟩ = some y ∧ w.cell? ⟨b, 2, none⟩ = some z := ⟨zaa h rfl, zaa h rfl, zaa h rfl⟩
end Go.Proofs.YteeeaeiafdgpkaaGreatDoor
