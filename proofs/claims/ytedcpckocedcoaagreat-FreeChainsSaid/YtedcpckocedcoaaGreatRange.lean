/- A range over a function whose body may write to whatever was there before the loop: the loop's own two blocks are told by their numbers. No program in sight. -/
import Derived.RangeFuncWrites
import Derived.RangeFuncCalls
import Derived.RangeFuncLeaves
import Derived.RangeFuncBox
import Derived.Test.YtedcpckocedcoaaGreatFr
namespace Go.Proofs.YtedcpckocedcoaaGreat
open Go.RowKit

/-- The loop's two blocks lie as they lay. -/
def Hold2 (B : Nat) (W W' : World) : Prop := W'.heap[B]? = W.heap[B]? ∧ W'.heap[B + 1]? = W.heap[B + 1]?

/-- How a round may be left: it goes on, or returns. -/
def roundPost {α : Type} (B : Nat) (Kp : World → World → Prop) (I Ix : List α → World → Prop) (xs : List α) (W : World) : Exit → Act → World → Prop
  | .normal, _, W' => Hold2 B W W' ∧ Kp W W' ∧ I xs W'
  | .ret, _, W' => Hold2 B W W' ∧ Ix xs W'
  | _, _, _ => False

theorem wpIn_range_held {α : Type} {n : Nat} {P : Program} {g : Operand} {ps : Array Tmp} {assign body : Code} {Q : Exit → Act → World → Prop} {a : Act} {w : World}
    (h1 : 1 ≤ n) {gf : Nat} {lb : Array Value} (hg : a.eval g = .func (.func gf) #[] lb) (eg : ∀ args w, (callFunc gf args).run P w = .ok (.enter gf args) w)
    (encs : α → Array Value) (hps : ∀ x, (encs x).size = ps.size) (Kp : World → World → Prop) (S Sp : List α → Prop) (Ok : List α → α → Prop)
    (hiter : ∀ (J Jx : List α → World → Prop) (W : World), Below w.heap.size w W →
      (∀ pre x W1, J pre W1 → Ok pre x → YieldAt Fence.wide (n - 1 - 1) P (w.heap.size + 1) (encs x) W1 fun e W' => (e = .returned (.bool true) ∧ J (pre ++ [x]) W' ∧ Kp W1 W') ∨ (e = .returned (.bool false) ∧ Jx (pre ++ [x]) W')) →
      J [] W → CallsIn Fence.wide (n - 1) P gf (#[.func (.yield (w.heap.size + 1)) #[] #[]] ++ lb) W fun e W' => (∃ v, e = .returned v) ∧ ((∃ xs, S xs ∧ J xs W') ∨ (∃ pre, Sp pre ∧ Jx pre W')))
    (hKt : ∀ {A B C : World}, Kp A B → Kp B C → Kp A C) (hKb : ∀ (W : World) (o : Obj), w.heap.size + 1 < W.heap.size → Kp W (W.putObj (w.heap.size + 1) o))
    (I Ix : List α → World → Prop) (hI : ∀ pre W o, I pre W → w.heap.size + 1 < W.heap.size → I pre (W.putObj (w.heap.size + 1) (.loop o))) (hIx : ∀ pre W o, Ix pre W → w.heap.size + 1 < W.heap.size → Ix pre (W.putObj (w.heap.size + 1) (.loop o)))
    (h0 : ∀ o, I [] ((w.alloc (.deferred (some []))).alloc (.loop o))) (a₁ : α → Act)
    (hassign : ∀ (l : Nat) (x : α) (W : World) (K : Act → World → Prop), K (a₁ x) W →
      assign.wpIn (Fence.wide.inRound l) (n - 1 - 1) P (Exit.then K (fun _ _ _ => False)) { tmps := (ps.zip (encs x)).foldl (fun t (p, v) => t.setIfInBounds p v) a.tmps, defers := [] } W)
    (hbody : ∀ (pre : List α) (x : α) (W : World), I pre W → Ok pre x → w.heap.size + 1 < W.heap.size → body.wpIn (Fence.wide.inRound (w.heap.size + 1)) (n - 1 - 1) P (roundPost w.heap.size Kp I Ix (pre ++ [x]) W) (a₁ x) W)
    (hdone : ∀ (xs : List α) (W : World), S xs → I xs W → W.heap[w.heap.size]? = some (.deferred (some [])) → Q .normal { a with defers := { target := .collected w.heap.size, args := #[] } :: a.defers } W)
    (hstop : ∀ (pre : List α) (W : World), Sp pre → Ix pre W → W.heap[w.heap.size]? = some (.deferred (some [])) → Code.ret.wpIn Fence.wide n P Q { a with defers := { target := .collected w.heap.size, args := #[] } :: a.defers } W) :
    (Code.rangeFunc g ps assign body).wpIn Fence.wide n P Q a w := by
  refine wpIn_rangeFunc fun fn hfn => ?_
  obtain ⟨rc, hrc⟩ : ∃ rc : LoopState → Option Code → Loop, rc = fun st pe => { state := st, pending := pe, fn, tmps := a.tmps, params := ps, assign, body, defers := w.heap.size } := ⟨_, rfl⟩
  have hz : ((w.alloc (.deferred (some []))).alloc (.loop (rc .ready none))).heap.size = w.heap.size + 2 := by simp
  have hL := World.alloc_heap_new (w.alloc (.deferred (some []))) (.loop (rc .ready none))
  rw [World.size_alloc] at hL
  have hD : ((w.alloc (.deferred (some []))).alloc (.loop (rc .ready none))).heap[w.heap.size]? = some (.deferred (some [])) := (Below.heap_alloc _ _ _ (by simp)).trans (World.alloc_heap_new w _)
  have hB : Below w.heap.size w ((w.alloc (.deferred (some []))).alloc (.loop (rc .ready none))) := ((Below.refl _ w).alloc (Nat.le_refl _) _).alloc (by simp) _
  have hI0 := h0 (rc .ready none)
  have hen : (Instr.enterLoop fn a.tmps ps assign body Fence.wide.round).run P w = .ok (w.heap.size + 1, [{ target := .collected w.heap.size, args := #[] }]) ((w.alloc (.deferred (some []))).alloc (.loop (rc .ready none))) := by
    rw [hrc]; exact run_enterLoop_outer _ _ _ _ _
  generalize ((w.alloc (.deferred (some []))).alloc (.loop (rc .ready none))) = W1 at *
  refine ⟨_, _, W1, { target := .fn (.func gf) lb, args := #[.func (.yield (w.heap.size + 1)) #[] #[]] }, W1, gf, #[.func (.yield (w.heap.size + 1)) #[] #[]] ++ lb, W1, hen, ?_, fun _ _ => trivial, ?_, fun _ => h1, ?_⟩
  · simp only [resolve, hg]
    simp [go_sem]
  · simp [invoke, go_sem, eg]
  refine (hiter (fun pre W => I pre W ∧ W.heap[w.heap.size + 1]? = some (.loop (rc .ready none)) ∧ W.heap[w.heap.size]? = some (.deferred (some [])))
    (fun pre W => Ix pre W ∧ W.heap[w.heap.size + 1]? = some (.loop (rc .done (some .ret))) ∧ W.heap[w.heap.size]? = some (.deferred (some []))) W1 hB ?_ ⟨hI0, hL, hD⟩).mono ?_
  · rintro pre x W ⟨hi, hl, hd⟩ hlen
    have hlt : w.heap.size + 1 < W.heap.size := (Array.getElem?_eq_some_iff.1 hl).1
    have hy := run_yield (P := P) (args := encs x) hl (by rw [hrc]; exact hps x)
    rw [hrc] at hy
    refine ⟨fn, _, assign, body, hy, roundIn_of_wpIn hfn (hassign _ x W _ ⟨_, run_beginRound hl (by rw [hrc]), ?_⟩)⟩
    have hl2 : (W.putObj (w.heap.size + 1) (.loop { rc .ready none with state := .busy })).heap[w.heap.size + 1]? = some (.loop { rc .ready none with state := .busy }) := World.putObj_heap_same hlt
    have hd2 : (W.putObj (w.heap.size + 1) (.loop { rc .ready none with state := .busy })).heap[w.heap.size]? = some (.deferred (some [])) := (World.putObj_heap_other (by omega)).trans hd
    have hlt2 : w.heap.size + 1 < (W.putObj (w.heap.size + 1) (.loop { rc .ready none with state := .busy })).heap.size := (Array.getElem?_eq_some_iff.1 hl2).1
    have hk2 := hKb W (.loop { rc .ready none with state := .busy }) hlt
    refine wpIn_mono (hbody pre x _ (hI _ _ _ hi hlt) hlen hlt2) ?_
    rintro e a3 W3 hp
    cases e with
    | normal =>
      obtain ⟨⟨q1, q2⟩, hk3, hi3⟩ := hp
      have hl3 := q2.trans hl2
      have hlt3 : w.heap.size + 1 < W3.heap.size := (Array.getElem?_eq_some_iff.1 hl3).1
      have hr := run_endRound (P := P) none hl3
      rw [hrc] at hr hl3
      refine ⟨_, _, hr, .inl ⟨rfl, ⟨hI _ _ _ hi3 hlt3, ?_, (World.putObj_heap_other (by omega)).trans (q1.trans hd2)⟩, hKt (hKt hk2 hk3) (hKb _ _ hlt3)⟩⟩
      rw [World.putObj_heap_same hlt3, hrc]
      rfl
    | ret =>
      obtain ⟨⟨q1, q2⟩, hi3⟩ := hp
      have hl3 := q2.trans hl2
      have hlt3 : w.heap.size + 1 < W3.heap.size := (Array.getElem?_eq_some_iff.1 hl3).1
      have hr := run_endRound (P := P) (some .ret) hl3
      rw [hrc] at hr hl3
      refine ⟨_, _, hr, .inr ⟨rfl, hIx _ _ _ hi3 hlt3, ?_, (World.putObj_heap_other (by omega)).trans (q1.trans hd2)⟩⟩
      rw [World.putObj_heap_same hlt3, hrc]
      rfl
    | exit id => exact hp.elim
    | goto t => exact hp.elim
    | panic ch => exact hp.elim
    | outgrown => exact hp.elim
  · rintro e W2 ⟨⟨v, rfl⟩, (⟨xs, hS, hi, hl, hd⟩ | ⟨pre, hSp, hi, hl, hd⟩)⟩
    · have hlt : w.heap.size + 1 < W2.heap.size := (Array.getElem?_eq_some_iff.1 hl).1
      have hr := run_endLoop (P := P) hl (by rw [hrc]; simp)
      rw [hrc] at hr
      exact ⟨none, _, hr, hdone xs _ hS (hI _ _ _ hi hlt) ((World.putObj_heap_other (by omega)).trans hd)⟩
    · have hlt : w.heap.size + 1 < W2.heap.size := (Array.getElem?_eq_some_iff.1 hl).1
      have hr := run_endLoop (P := P) hl (by rw [hrc]; simp)
      rw [hrc] at hr
      exact ⟨some .ret, _, hr, hstop pre _ hSp (hIx _ _ _ hi hlt) ((World.putObj_heap_other (by omega)).trans hd)⟩
end Go.Proofs.YtedcpckocedcoaaGreat
