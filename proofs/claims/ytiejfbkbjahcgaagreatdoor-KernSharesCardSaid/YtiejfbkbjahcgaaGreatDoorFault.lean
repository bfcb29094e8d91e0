/-
  THE ERRORS: what fault.Of, fault.At, fault.In and the two fail functions give, for the codes that tree and kern use.
-/
import Derived.Test.YtiejfbkbjahcgaaGreatDoorProg
import Derived.Test.YtiejfbkbjahcgaaGreatDoorHeap
import Derived.Outline
namespace Go.Proofs.YtiejfbkbjahcgaaGreatDoor
open Go Go.RowKit

/-- The package-level variable of a code. -/
def gl : Nat → Nat
  | 1 => 1
  | 2 => 2
  | 3 => 3
  | 4 => 4
  | 5 => 5
  | 6 => 6
  | 7 => 7
  | 8 => 8
  | 9 => 9
  | 10 => 10
  | 11 => 11
  | 12 => 12
  | 13 => 13
  | 14 => 14
  | 15 => 15
  | 16 => 16
  | 17 => 17
  | 18 => 18
  | 19 => 19
  | 20 => 20
  | 21 => 21
  | _ => 0

/-- The value of the error at the bottom that lies at a. -/
def botV (a : Addr) : Value := .iface 307 (.pointer (some a))

/-- What the package-level variables hold: E c is the place of the text of code c. All of it lies below B. -/
structure Env (E : Nat → Addr) (B : Nat) (w : World) : Prop where
  size : B ≤ w.heap.size
  room : ∀ c, 1 ≤ c → c ≤ 21 → gl c < B ∧ (E c).block < B
  glob : ∀ c, 1 ≤ c → c ≤ 21 → w.cell? ⟨gl c, 0, none⟩ = some (botV (E c))
  unlike : ∀ c d, 1 ≤ c → c ≤ 21 → 1 ≤ d → d ≤ 21 → E c = E d → c = d
  body : ∀ c, 1 ≤ c → c ≤ 21 → ∃ cs t, w.heap[(E c).block]? = some (.cells cs t (0, 0))

theorem Env.kept {E : Nat → Addr} {B : Nat} {w w' : World} {F : Nat → Prop} (h : Env E B w) (k : Kept F w w') (hF : ∀ b, F b → B ≤ b) : Env E B w' :=
  ⟨Nat.le_trans h.size k.size, h.room, fun c h1 h2 => (k.cell (p := ⟨gl c, 0, none⟩) (Nat.lt_of_lt_of_le (h.room c h1 h2).1 h.size) (fun hf => by have h3 : B ≤ gl c := hF _ hf; have := (h.room c h1 h2).1; omega)).trans (h.glob c h1 h2), h.unlike, fun c h1 h2 => by
    obtain ⟨cs, t, hb⟩ := h.body c h1 h2
    exact ⟨cs, t, (k.block _ (lt_of_heap hb) (fun hf => by have h3 : B ≤ (E c).block := hF _ hf; have := (h.room c h1 h2).2; omega)).trans hb⟩⟩
theorem Env.below {E : Nat → Addr} {B : Nat} {w w' : World} (h : Env E B w) (k : Below w.heap.size w w') : Env E B w' := h.kept (Kept.of_below k (fun _ => False)) (fun _ hf => hf.elim)

/-- Block a holds the error that 'fail' gives for code c; its blocks lie from L on. -/
def Failed (E : Nat → Addr) (L : Nat) (w : World) (a : Nat) (c : Nat) : Prop :=
  ∃ b, L ≤ a ∧ L ≤ b ∧ w.heap[a]? = some (.cells #[.iface 151 (.pointer (some ⟨b, 0, none⟩)), .int .i64 11] 159 (0, 0)) ∧
    w.heap[b]? = some (.cells #[botV (E c), .int .i64 0] 155 (0, 0))

/-- The value of such an error. -/
abbrev failV (a : Nat) : Value := .iface 156 (.pointer (some ⟨a, 0, none⟩))

theorem Failed.kept {E : Nat → Addr} {L : Nat} {w w' : World} {a c : Nat} {F : Nat → Prop} (h : Failed E L w a c) (k : Kept F w w') (hF : ∀ b, F b → b < L) : Failed E L w' a c := by
  obtain ⟨b, l1, l2, h1, h2⟩ := h
  exact ⟨b, l1, l2, (k.block a (lt_of_heap h1) (fun hf => by have := hF _ hf; omega)).trans h1, (k.block b (lt_of_heap h2) (fun hf => by have := hF _ hf; omega)).trans h2⟩
theorem Failed.below {E : Nat → Addr} {L : Nat} {w w' : World} {a c : Nat} (h : Failed E L w a c) (k : Below w.heap.size w w') : Failed E L w' a c := by
  obtain ⟨b, l1, l2, h1, h2⟩ := h
  exact ⟨b, l1, l2, (k.block a (lt_of_heap h1)).trans h1, (k.block b (lt_of_heap h2)).trans h2⟩
theorem Failed.mono {E : Nat → Addr} {L L' : Nat} {w : World} {a c : Nat} (h : Failed E L w a c) (hl : L' ≤ L) : Failed E L' w a c := by
  obtain ⟨b, l1, l2, h1, h2⟩ := h
  exact ⟨b, by omega, by omega, h1, h2⟩

/-- The codes that tree and kern use. -/
def Used (c : Nat) : Prop := c = 1 ∨ c = 15 ∨ c = 16 ∨ c = 17 ∨ c = 18 ∨ c = 19

theorem failed_made {E : Nat → Addr} (w : World) (c : Nat) :
    Failed E w.heap.size ((w.alloc (.cells #[botV (E c), .int .i64 0] 155)).alloc (.cells #[.iface 151 (.pointer (some ⟨w.heap.size, 0, none⟩)), .int .i64 11] 159)) (w.heap.size + 1) c := by
  refine ⟨w.heap.size, by omega, Nat.le_refl _, ?_, ?_⟩
  · have := heap_alloc_new (w.alloc (.cells #[botV (E c), .int .i64 0] 155)) (.cells #[.iface 151 (.pointer (some ⟨w.heap.size, 0, none⟩)), .int .i64 11] 159)
    simpa using this
  · rw [Below.heap_alloc _ _ _ (by simp)]
    exact heap_alloc_new w _

theorem below_two (w : World) (o p : Obj) : Below w.heap.size w ((w.alloc o).alloc p) :=
  ((Below.refl _ w).alloc (Nat.le_refl _) o).alloc (by simp) p

set_option maxHeartbeats 1000000 in
theorem tree_fail {E : Nat → Addr} {B : Nat} (w : World) (hE : Env E B w) (c : Nat) (hc : Used c) :
    Calls Tryz.prog 74 #[.int .i64 c] w fun e w' => ∃ a, e = .returned (failV a) ∧ Failed E w.heap.size w' a c ∧ Below w.heap.size w w' := by
  rcases hc with rfl | rfl | rfl | rfl | rfl | rfl
  · have h := hE.glob 1 (by omega) (by omega)
    simp only [gl, botV] at h
    clear hE
    go_enter Tryz.func74, Tryz.ntmps74
    go_wp2
    go_ret
    exact ⟨_, rfl, failed_made w 1, below_two w _ _⟩
  · have h := hE.glob 15 (by omega) (by omega)
    simp only [gl, botV] at h
    clear hE
    go_enter Tryz.func74, Tryz.ntmps74
    go_wp2
    go_ret
    exact ⟨_, rfl, failed_made w 15, below_two w _ _⟩
  · have h := hE.glob 16 (by omega) (by omega)
    simp only [gl, botV] at h
    clear hE
    go_enter Tryz.func74, Tryz.ntmps74
    go_wp2
    go_ret
    exact ⟨_, rfl, failed_made w 16, below_two w _ _⟩
  · have h := hE.glob 17 (by omega) (by omega)
    simp only [gl, botV] at h
    clear hE
    go_enter Tryz.func74, Tryz.ntmps74
    go_wp2
    go_ret
    exact ⟨_, rfl, failed_made w 17, below_two w _ _⟩
  · have h := hE.glob 18 (by omega) (by omega)
    simp only [gl, botV] at h
    clear hE
    go_enter Tryz.func74, Tryz.ntmps74
    go_wp2
    go_ret
    exact ⟨_, rfl, failed_made w 18, below_two w _ _⟩
  · have h := hE.glob 19 (by omega) (by omega)
    simp only [gl, botV] at h
    clear hE
    go_enter Tryz.func74, Tryz.ntmps74
    go_wp2
    go_ret
    exact ⟨_, rfl, failed_made w 19, below_two w _ _⟩
end Go.Proofs.YtiejfbkbjahcgaaGreatDoor
