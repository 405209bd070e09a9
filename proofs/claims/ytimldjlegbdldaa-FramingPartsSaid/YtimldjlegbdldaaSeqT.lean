/- A range over a function whose iterator keeps state of its own in cells: the caller's invariant must abide the iterator's own steps T. The body goes on in every round. -/
import Derived.RangeFuncNested
import Derived.RangeFuncBound
import Derived.RangeFuncCalls
import Derived.RangeFuncLeaves
import Derived.RangeFuncBox
import Derived.Shelf.Abstract
import Derived.Shelf.RegionOpen
import Derived.WalkKit
import Derived.OwnWalkIn
import Derived.TacticsInMore
import Derived.LoopNIn
import Derived.LoopIn
import Derived.RegionIn
import Derived.Test.YtimldjlegbdldaaSub
namespace Go.Proofs.Ytimldjlegbdldaa
open Go.RowKit Go.Shelf

/-- An iterator that makes steps T of its own between the rounds, and whose rounds all go on. -/
def SeqStopsT {α : Type} (F : Fence) (n : Nat) (P : Program) (g : Nat) (lb : Array Value) (encs : α → Array Value) (T Kp : World → World → Prop) (S : List α → Prop) (N : Nat) (w : World) : Prop :=
  ∀ (l : Nat) (J : List α → World → Prop) (W : World), Below w.heap.size w W → AbidesFrom W.heap.size J → (∀ pre X Y, J pre X → T X Y → J pre Y) →
    (∀ pre x W1, J pre W1 → pre.length < N → YieldAt F (n - 1) P l (encs x) W1 fun e W' => e = .returned (.bool true) ∧ J (pre ++ [x]) W' ∧ Kp W1 W') →
    J [] W →
    CallsIn F n P g (#[.func (.yield l) #[] #[]] ++ lb) W fun e W' => (∃ v, e = .returned v) ∧ ∃ xs, S xs ∧ J xs W'

variable {F : Fence} {n : Nat} {P : Program}
/-- The law for the caller. -/
theorem wpIn_rangeFunc_ownT {α : Type} {g : Operand} {ps : Array Tmp} {assign body : Code} {Q : Exit → Act → World → Prop} {a : Act} {w : World}
    (hro : F.round = none) (h1 : 1 ≤ n) {gf : Nat} {lb : Array Value} (hg : a.eval g = .func (.func gf) #[] lb) (hFg : F.fn gf) (eg : ∀ args w, (callFunc gf args).run P w = .ok (.enter gf args) w)
    {encs : α → Array Value} {T Kp : World → World → Prop} {S : List α → Prop} {N : Nat} {w0 : World} (hseq : SeqStopsT F (n - 1) P gf lb encs T Kp S N w0)
    (hT : ∀ X Y, T X Y → KeepsOthers X Y) (hKt : ∀ {A B C : World}, Kp A B → Kp B C → Kp A C) (hKb : ∀ (W : World) (l : Nat) (o o' : Obj), w.heap.size ≤ l → W.heap[l]? = some o → o.isCells = false → o.isWalk = false → Kp W (W.putObj l o'))
    (hb0 : Below w0.heap.size w0 w) (hps : ∀ x, (encs x).size = ps.size) (I : List α → World → Prop) (hI : OwnFrom w.heap.size I) (hIT : ∀ pre X Y, I pre X → T X Y → I pre Y) (h0 : I [] w) (a₁ : α → Act)
    (hassign : ∀ (l : Nat) (x : α) (W : World) (K : Act → World → Prop), K (a₁ x) W →
      assign.wpIn (F.inRound l) (n - 1 - 1) P (Exit.then K (fun _ _ _ => False)) { tmps := (ps.zip (encs x)).foldl (fun t (p, v) => t.setIfInBounds p v) a.tmps, defers := [] } W)
    (hbody : ∀ (l : Nat) (pre : List α) (x : α) (W : World), I pre W → pre.length < N → body.wpIn (F.inRound l) (n - 1 - 1) P (ownPostG w.heap.size Kp I (fun _ _ _ => False) (pre ++ [x]) W) (a₁ x) W)
    (hdone : ∀ (D : Nat) (xs : List α) (W : World), w.heap.size ≤ D → S xs → I xs W → W.heap[D]? = some (.deferred (some [])) → Q .normal { a with defers := { target := .collected D, args := #[] } :: a.defers } W) :
    (Code.rangeFunc g ps assign body).wpIn F n P Q a w := by
  refine wpIn_rangeFunc ?_
  intro fn hfn
  rw [hro]
  let rec_ : LoopState → Option Code → Loop := fun st pe => { state := st, pending := pe, fn, tmps := a.tmps, params := ps, assign, body, defers := w.heap.size }
  obtain ⟨L, hL⟩ : ∃ L, L = rec_ := ⟨_, rfl⟩
  obtain ⟨D, hD⟩ : ∃ D, D = w.heap.size := ⟨_, rfl⟩
  have q1 : L .ready none = rec_ .ready none := by rw [hL]
  -- the two blocks of book-keeping
  let Wa := w.alloc (.deferred (some []))
  have hWa : Wa.heap.size = D + 1 := by simp [Wa, hD]
  obtain ⟨W1, hW1⟩ : ∃ W1, Wa.alloc (.loop (L .ready none)) = W1 := ⟨_, rfl⟩
  have hl1 : W1.heap[D + 1]? = some (.loop (L .ready none)) := by rw [← hW1, ← hWa]; exact World.alloc_heap_new Wa _
  have hd1 : W1.heap[D]? = some (.deferred (some [])) := by
    rw [← hW1]
    refine (Below.heap_alloc Wa _ D (by omega)).trans ?_
    rw [hD]
    exact World.alloc_heap_new w _
  have hi1 : I [] W1 := by rw [← hW1]; exact hI.alloc _ (hI.alloc _ h0)
  have hb1 : Below w0.heap.size w0 W1 := by
    rw [← hW1]
    exact (hb0.alloc hb0.size _).alloc (by have := hb0.size; simp; omega) _
  have hs1 : W1.heap.size = D + 2 := by rw [← hW1, World.size_alloc, hWa]
  -- what the iterator is told to keep
  let J : List α → World → Prop := fun pre W => I pre W ∧ W.heap[D + 1]? = some (.loop (L .ready none)) ∧ W.heap[D]? = some (.deferred (some []))
  have hJa : AbidesFrom W1.heap.size J := fun pre A B row hs hgr hr => by
    have hr' : ∀ r, row = some r → ∃ o : Obj, A.heap[r]? = some o ∧ o.isCells = false := fun r e => by
      obtain ⟨_, o, ho, hw⟩ := hr r e
      exact ⟨o, ho, Obj.not_cells_of_walk hw⟩
    refine ⟨hI pre A B row hs.1 hgr (fun r e => ⟨by have := (hr r e).1; omega, hr' r e⟩), (hgr.block _ (Array.getElem?_eq_some_iff.1 hs.2.1).1 ?_).trans hs.2.1, (hgr.block _ (Array.getElem?_eq_some_iff.1 hs.2.2).1 ?_).trans hs.2.2⟩
    · intro e
      obtain ⟨h, _⟩ := hr _ e.symm
      omega
    · intro e
      obtain ⟨h, _⟩ := hr _ e.symm
      omega
  have hJT : ∀ pre X Y, J pre X → T X Y → J pre Y := fun pre X Y hs ht =>
    ⟨hIT pre X Y hs.1 ht, (hT X Y ht).same _ _ hs.2.1 rfl, (hT X Y ht).same _ _ hs.2.2 rfl⟩
  refine ⟨D + 1, [{ target := .collected D, args := #[] }], W1, { target := .fn (.func gf) lb, args := #[.func (.yield (D + 1)) #[] #[]] }, W1, gf,
    #[.func (.yield (D + 1)) #[] #[]] ++ lb, W1, ?_, ?_, ?_, ?_, fun _ => h1, ?_⟩
  · rw [← hW1, hL, hD]
    exact run_enterLoop_outer _ _ _ _ _
  · simp only [resolve, hg]
    simp [go_sem]
  · intro f' hf'
    simp [Target.leads] at hf'
    subst hf'
    exact hFg
  · simp [invoke, go_sem, eg]
  refine (hseq (D + 1) J W1 hb1 hJa hJT ?_ ⟨hi1, hl1, hd1⟩).mono ?_
  · rintro pre x W ⟨hi, hl, hd⟩ hlen
    have hlt : D + 1 < W.heap.size := (Array.getElem?_eq_some_iff.1 hl).1
    have hy := run_yield (P := P) (args := encs x) hl (by rw [q1]; exact hps x)
    rw [q1] at hy
    refine ⟨fn, _, assign, body, hy, roundIn_of_wpIn hfn (hassign _ x W _ ⟨_, run_beginRound hl (by rw [q1]), ?_⟩)⟩
    obtain ⟨W2, hW2⟩ : ∃ W2, W.putObj (D + 1) (.loop { L .ready none with state := .busy }) = W2 := ⟨_, rfl⟩
    have hl2 : W2.heap[D + 1]? = some (.loop { L .ready none with state := .busy }) := by rw [← hW2]; exact World.putObj_heap_same hlt
    have hd2 : W2.heap[D]? = some (.deferred (some [])) := by rw [← hW2]; exact (World.putObj_heap_other (by omega)).trans hd
    have hk2 : Kp W W2 := by rw [← hW2]; exact hKb _ _ _ _ (by omega) hl rfl rfl
    have hi2 : I pre W2 := by rw [← hW2]; exact hI.putObj _ hi (by omega) hl rfl
    rw [hW2]
    refine wpIn_mono (hbody _ pre x _ hi2 hlen) ?_
    rintro e a3 W3 hp
    cases e with
    | normal =>
      obtain ⟨hk3, hkp3, hi3⟩ := hp
      have hl3 := hk3.same _ _ (by omega) hl2 rfl
      have hd3 := hk3.same _ _ (by omega) hd2 rfl
      have hr := run_endRound (P := P) none hl3
      rw [q1] at hr hl3
      refine ⟨_, _, hr, rfl, ⟨hI.putObj _ hi3 (by omega) hl3 rfl, ?_, (World.putObj_heap_other (by omega)).trans hd3⟩, hKt (hKt hk2 hkp3) (hKb _ _ _ _ (by omega) hl3 rfl rfl)⟩
      rw [q1]
      exact World.putObj_heap_same (Array.getElem?_eq_some_iff.1 hl3).1
    | ret => exact hp.2.elim
    | exit id => exact hp.2.elim
    | goto t => exact hp.2.elim
    | panic ch => exact hp.elim
    | outgrown => exact hp.elim
  · rintro e W2 ⟨⟨v, rfl⟩, xs, hS, hi, hl, hd⟩
    have hr := run_endLoop (P := P) hl (by rw [q1]; simp [rec_])
    rw [q1] at hr hl
    refine ⟨none, _, hr, ?_⟩
    have hf := hdone D xs _ (by omega) hS (hI.putObj (l := D + 1) (.loop { rec_ .ready none with state := .exhausted }) hi (by omega) hl rfl) ((World.putObj_heap_other (by omega)).trans hd)
    exact hf
end Go.Proofs.Ytimldjlegbdldaa
