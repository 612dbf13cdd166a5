/- A region that draws its order, whose last operation waits for all others: those that only read are taken first, all at one stroke; the loud ones come behind them. No program in sight. -/
import Derived.Test.YtjpmebfegpmccaaGreatSink
import Derived.Deep.Quiet
namespace Go.Proofs.YtjpmebfegpmccaaGreat
open Go.RowKit

namespace Mix
/-- Operations that leave the world as it is and call nothing. -/
def pureB (o : Oper) : Bool := match o.op with
  | .move _ => true
  | .assign _ => true
  | .load _ _ => true
  | .build _ _ => true
  | .binOp _ _ _ _ _ => true
  | .unOp _ _ _ => true
  | .slice _ _ _ _ _ => true
  | .fieldAddr _ _ _ => true
  | .field _ _ _ => true
  | .indexAddr _ _ _ => true
  | .extract _ _ => true
  | .pick _ _ _ => true
  | .nilCheck _ => true
  | .call c => match c.callee with
    | .builtin .len => true
    | _ => false
  | _ => false

theorem of_v {P : Program} {w w' : World} {n : Next} {s : Sem Value} (e : (do pure (Next.value (← s)) : Sem Next).run P w = .ok n w') : ∃ u, n = .value u := by
  simp only [Sem.run_bind, Sem.run_pure] at e
  cases h : s.run P w with
  | ok x w2 =>
    rw [h] at e
    simp only [Result.andThen_ok] at e
    injection e with e1 _
    exact ⟨x, e1.symm⟩
  | halt x w2 =>
    rw [h] at e
    cases e

/-- Whatever comes of it is a value. -/
def NV (s : Sem Next) : Prop := ∀ (P : Program) (w w' : World) (n : Next), s.run P w = .ok n w' → ∃ u, n = .value u
theorem NV.pure (u : Value) : NV (pure (.value u)) := fun P w w' n e => by
  simp only [Sem.run_pure] at e
  injection e with e _
  exact ⟨_, e.symm⟩
theorem NV.bind {α : Type} {s : Sem α} {f : α → Sem Next} (h : ∀ x, NV (f x)) : NV (s >>= f) := fun P w w' n e => by
  simp only [Sem.run_bind] at e
  cases hs : s.run P w with
  | ok x w2 =>
    rw [hs] at e
    simp only [Result.andThen_ok] at e
    exact h x P w2 w' n e
  | halt x w2 =>
    rw [hs] at e
    cases e
theorem NV.v (s : Sem Value) : NV (do Pure.pure (Next.value (← s))) := NV.bind fun x => NV.pure x
theorem NV.ite {c : Prop} [Decidable c] {s t : Sem Next} (h1 : NV s) (h2 : NV t) : NV (if c then s else t) := by
  split
  · exact h1
  · exact h2
theorem NV.panic : NV (runtimePanic .nilDeref) := fun P w w' n h => by
  simp [runtimePanic, goPanic, go_sem] at h

theorem pure_nv {o : Oper} {r : Operand → Value} (h : pureB o = true) : NV (execOp r o) := by
  obtain ⟨d, op, ty, pos, af, g⟩ := o
  unfold pureB at h
  unfold execOp
  cases op
  all_goals first
    | (cases h; done)
    | exact NV.pure _
    | exact NV.v _
    | exact NV.bind fun x => NV.pure _
    | skip
  case nilCheck x =>
    dsimp only
    split
    all_goals first
      | exact NV.panic
      | exact NV.pure _
      | skip
    split
    all_goals first
      | exact NV.panic
      | exact NV.pure _
      | skip
    exact NV.bind fun x => NV.bind fun y => NV.ite (NV.bind fun _ => NV.pure _) (NV.pure _)
  case call c =>
    obtain ⟨callee, args, ats⟩ := c
    cases callee
    case builtin b =>
      cases b
      all_goals first
        | (cases h; done)
        | skip
      intro P w w' n e
      simp only [resolve, invoke, Sem.run_bind, Sem.run_pure, Result.andThen_ok] at e
      exact NV.v _ P w w' n e
    all_goals cases h

section
variable {P : Program} {ops : Array Oper} {Q : Exit → Act → World → Prop} {md : Region.Mode} {S : World → Prop}

/-- Those at ks may be taken first, one behind the other. -/
def takeOk (md : Region.Mode) (ops : Array Oper) (n : Nat) : List Nat → Array Bool → Bool
  | [], _ => true
  | k :: ks, listed => decide (k < n) && Region.free md ops listed k && (Region.ready md ops listed).contains k && (match ops[k]? with | some o => pureB o | none => false) && takeOk md ops n ks (listed.setIfInBounds k true)
def nth : List Oper → Nat → Option Oper
  | [], _ => none
  | o :: _, 0 => some o
  | _ :: l, k + 1 => nth l k
theorem nth_eq : ∀ (l : List Oper) (k : Nat), nth l k = l.toArray[k]?
  | [], _ => by simp [nth]
  | o :: l, 0 => by simp [nth]
  | o :: l, k + 1 => by rw [nth, nth_eq l k]; simp
def picks (l : List Oper) (ks : List Nat) : List Oper := ks.filterMap fun k => l.toArray[k]?
theorem picks_step {l : List Oper} {C : World → Prop} {K : Act → Prop} {a : Act} {k : Nat} {ks : List Nat} {o : Oper} (h : nth l k = some o) (hw : wpQuiet P l.toArray C K (o :: picks l ks) a) : wpQuiet P l.toArray C K (picks l (k :: ks)) a := by
  rw [nth_eq] at h
  unfold picks at hw ⊢
  rw [List.filterMap_cons, h]
  exact hw
theorem picks_nil {l : List Oper} {C : World → Prop} {K : Act → Prop} {a : Act} (h : K a) : wpQuiet P l.toArray C K (picks l []) a := h
def setAll (ks : List Nat) (listed : Array Bool) : Array Bool := ks.foldl (fun l k => l.setIfInBounds k true) listed

theorem quiet_yields {o : Oper} {a : Act} {K : Act → Prop} (hp : pureB o = true) (hw : Region.wanted o (yielded ops a.tmps) = true) (h : o.quiet P a S K) : ∃ v, YieldsIf P ops S o v a ∧ K (a.put o.dst v) := by
  obtain ⟨v, h1, h2⟩ := h
  refine ⟨v, .inl ⟨hw, fun w hw2 => ?_⟩, h2⟩
  have h3 := h1 w hw2
  unfold Oper.quietAt at h3
  cases hr : (execOp a.eval o).run P w with
  | ok n w' =>
    obtain ⟨u, rfl⟩ := pure_nv hp P w w' n hr
    rw [hr] at h3
    simp only [Oper.quietUpon] at h3
    rw [h3.1, h3.2]
  | halt x w' =>
    rw [hr] at h3
    simp only [Oper.quietUpon] at h3

theorem sink_bulk {n : Nat} (hB : (Region.sinkB md ops n && Region.chainB md ops n && decide (n < ops.size) && Region.noSelect ops) = true) (hQ : ∀ c a d v w, Q (.panic c) (Act.put a d v) w → Q (.panic c) a w) :
    ∀ (ks : List Nat) (listed : Array Bool) (a : Act) (w : World) (fuel : Nat), takeOk md ops n ks listed = true → HeadInv md ops n listed → S w →
      wpQuiet P ops S (fun a' => HeadInv md ops n (setAll ks listed) → WpSink P md ops Q S n fuel (setAll ks listed) a' w) (ks.filterMap fun k => ops[k]?) a → WpSink P md ops Q S n (ks.length + fuel) listed a w
  | [], listed, a, w, fuel, _, inv, _, h => by
    rw [List.length_nil, Nat.zero_add]
    exact h inv
  | k :: ks, listed, a, w, fuel, ht, inv, hS, h => by
    simp only [takeOk, Bool.and_eq_true] at ht
    obtain ⟨⟨⟨⟨hk, hf⟩, hr⟩, hp⟩, ht⟩ := ht
    have hkn : k < n := of_decide_eq_true hk
    have hB' := hB
    simp only [Bool.and_eq_true, decide_eq_true_eq] at hB'
    obtain ⟨⟨⟨h1, h2⟩, h3⟩, h5⟩ := hB'
    cases ho : ops[k]? with
    | none => rw [ho] at hp; cases hp
    | some o =>
      rw [ho] at hp
      have hp' : pureB o = true := hp
      simp only [List.filterMap_cons, ho] at h
      have hrk : k ∈ Region.ready md ops listed := by simpa using hr
      have e : (k :: ks).length + fuel = (ks.length + fuel) + 1 := by rw [List.length_cons]; omega
      rw [e]
      unfold wpQuiet at h
      have key : ∃ v, YieldsIf P ops S o v a ∧ wpQuiet P ops S (fun a' => HeadInv md ops n (setAll (k :: ks) listed) → WpSink P md ops Q S n fuel (setAll (k :: ks) listed) a' w) (ks.filterMap fun k => ops[k]?) (a.put o.dst v) := by
        by_cases hw : Region.wanted o (yielded ops a.tmps) = true
        · rw [if_pos hw] at h
          exact quiet_yields hp' hw h
        · rw [if_neg hw] at h
          exact ⟨undef, .inr ⟨by simpa using hw, rfl⟩, h⟩
      obtain ⟨v, hy, hK⟩ := key
      exact sink_first h1 h2 h3 hkn ho (Region.noSelect_spec h5) (fun c a w => hQ c a _ _ w) (ks.length + fuel) listed a w inv (Region.free_spec ho hf) hrk hy hS
        (sink_bulk hB hQ ks _ _ w fuel ht (inv.set hrk hkn) hS hK)

theorem wp_norm {c : Code} {a : Act} {w : World} (h : c.wp P (fun e a W => e = .normal ∧ Q .normal a W) a w) : c.wp P Q a w := Code.wp_mono (by rintro e a W ⟨rfl, h⟩; exact h) h

/-- A region: those at ks, that only read, first; then as XSink goes. -/
theorem region_mix {id n m : Nat} {l : List Oper} {a : Act} {w : World} (S : World → Prop) (ks : List Nat) (hm : P.follows .mixedOrders = true) (hsz : l.toArray.size = n + 1) (hm2 : ks.length + m = n + 1)
    (hB : (Region.sinkB .any l.toArray n && Region.chainB .any l.toArray n && decide (n < l.toArray.size) && Region.noSelect l.toArray) = true) (ht : takeOk .any l.toArray n ks (Array.replicate (n + 1) false) = true) (hS0 : S w.drew)
    (h : wpQuiet P l.toArray S (fun a' => HeadInv .any l.toArray n (setAll ks (Array.replicate (n + 1) false)) → WpSink P .any l.toArray (fun e a W => e = .normal ∧ Q .normal a W) S n m (setAll ks (Array.replicate (n + 1) false)) a' w.drew) (picks l ks) a) : (Code.region id l.toArray true).wp P Q a w :=
  wp_norm (region_sink (n := n) S hm hsz hS0 (fun inv hS => by
    rw [hsz] at inv
    have := sink_bulk hB (fun _ _ _ _ _ h => by cases h.1) ks (Array.replicate (n + 1) false) a w.drew m ht inv hS h
    rw [hm2] at this
    exact this))
end
end Mix
end Go.Proofs.YtjpmebfegpmccaaGreat
