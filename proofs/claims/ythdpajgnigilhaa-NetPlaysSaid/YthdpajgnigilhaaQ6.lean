/- Merged texts: Later Sink Mix MixM NPR NPS NPT NPV. -/
import Derived.BigQuiet
import Derived.Test.YthdpajgnigilhaaQ4
import Derived.Test.YthdpajgnigilhaaRows
import Derived.WalkKit
import Derived.StillTail
import Derived.OrdersHeld
import Derived.Deep.RegionHeld
import Derived.Deep.Quiet
import Derived.Test.YthdpajgnigilhaaQ5
import Derived.Test.YthdpajgnigilhaaQ2
import Derived.BigRegion
import Derived.Laws.StructEq
/- A region that draws its order, whose operations only read and whose calls leave what was there: walked once. -/
namespace Go.Proofs.Ythdpajgnigilhaa
open Go.RowKit

/-- The worlds that keep all that w holds. -/
def Later (w : World) : Type := {W : World // Below w.heap.size w W}

instance (w : World) : Inhabited (Later w) := ⟨⟨w, Below.refl _ w⟩⟩

theorem wp_region_later {P : Program} {id : Nat} {Q : Exit → Act → World → Prop} {a : Act} {w : World} {l : List Oper} (hm : P.follows .mixedOrders = true) (hB : Region.lexB .any l.toArray = true)
    (h : wpQuiet P l.toArray (fun w' => ∃ p : Later w, w' = p.1) (fun a' => ∀ w', (∃ p : Later w, w' = p.1) → Q .normal a' w') l a) : (Code.region id l.toArray true).wp P Q a w :=
  wp_region_quiet (C := fun w' => ∃ p : Later w, w' = p.1) hm hB ⟨⟨w.drew, ((Fr.refl (fun _ => False) w).drew).below (Nat.le_refl _) (fun _ h => h.elim)⟩, rfl⟩ (by simpa using h)

theorem Calls.later_of {P : Program} {f : FuncId} {args : Array Value} {w : World} {p : Later w} {v : Value}
    (h : Calls P f args p.1 fun e w' => e = .returned v ∧ Below p.1.heap.size p.1 w') : Calls P f args p.1 fun e w'' => e = .returned v ∧ ∃ q : Later w, w'' = q.1 :=
  h.mono fun _ w' ⟨he, hb⟩ => ⟨he, ⟨w', p.2.trans (hb.mono p.2.size)⟩, rfl⟩
theorem Calls.later_same {P : Program} {f : FuncId} {args : Array Value} {w : World} {p : Later w} {v : Value}
    (h : Calls P f args p.1 fun e w' => e = .returned v ∧ w' = p.1) : Calls P f args p.1 fun e w'' => e = .returned v ∧ ∃ q : Later w, w'' = q.1 :=
  h.mono fun _ _ ⟨he, hb⟩ => ⟨he, p, hb⟩
end Go.Proofs.Ythdpajgnigilhaa

/- A region that draws its order, whose last operation waits for all others: a condition on the world that holds till then serves to take loads first. No program in sight. -/
namespace Go.Proofs.Ythdpajgnigilhaa
open Go.RowKit

section
variable {P : Program} {ops : Array Oper} {Q : Exit → Act → World → Prop} {md : Region.Mode} {S : World → Prop}

/-- Whatever order is picked; S holds behind every operation but number n. -/
def WpSink (P : Program) (md : Region.Mode) (ops : Array Oper) (Q : Exit → Act → World → Prop) (S : World → Prop) (n : Nat) : Nat → Array Bool → Act → World → Prop
  | 0, listed, a, w => Region.ready md ops listed = [] ∧ Q .normal a w
  | fuel + 1, listed, a, w =>
    (Region.ready md ops listed = [] → Q .normal a w) ∧
    ∀ i ∈ Region.ready md ops listed, wpOp P ops Q i (fun a' w' => (i ≠ n → S w') ∧ WpSink P md ops Q S n fuel (listed.setIfInBounds i true) a' w') a w

theorem any_of_sink {n : Nat} : ∀ (fuel : Nat) (listed : Array Bool) (a : Act) (w : World), WpSink P md ops Q S n fuel listed a w → wpAny P md ops Q fuel listed a w
  | 0, _, _, _, h => h
  | fuel + 1, _, _, _, h => ⟨h.1, fun i hi => wpOp_mono (fun _ _ h' => any_of_sink fuel _ _ _ h'.2) (h.2 i hi)⟩

theorem sink_first {n i : Nat} {oi : Oper} {v : Value} (hs : Region.sinkB md ops n = true) (hc : Region.chainB md ops n = true) (hn : n < ops.size) (hin : i < n) (hi : ops[i]? = some oi)
    (hsel : ∀ (j : Nat) (o : Oper) cs b, ops[j]? = some o → o.op ≠ .select cs b) (hQ : ∀ c a w, Q (.panic c) (a.put oi.dst v) w → Q (.panic c) a w) :
    ∀ (fuel : Nat) (listed : Array Bool) (a : Act) (w : World), HeadInv md ops n listed →
      (∀ j oj, ops[j]? = some oj → j ≠ i → listed.getD j true = false → (∀ e ∈ oj.after, Region.binds md e = true → e.on ≠ i) → oi.apart ops oj = true) →
      i ∈ Region.ready md ops listed → YieldsIf P ops S oi v a → S w →
      WpSink P md ops Q S n fuel (listed.setIfInBounds i true) (a.put oi.dst v) w → WpSink P md ops Q S n (fuel + 1) listed a w := by
  intro fuel
  induction fuel with
  | zero =>
    intro listed a w inv hfree hr hy hS H
    refine ⟨fun h => (by rw [h] at hr; cases hr), fun j hj => ?_⟩
    by_cases hji : j = i
    · subst hji; exact hy.wpOp hi hS ⟨fun _ => hS, H⟩
    · have h1 := ready_mono hj hji
      rw [H.1] at h1
      cases h1
  | succ fuel ih =>
    intro listed a w inv hfree hr hy hS H
    have hun := (mem_ready.1 hr).1
    refine ⟨fun h => (by rw [h] at hr; cases hr), fun j hj => ?_⟩
    by_cases hji : j = i
    · subst hji; exact hy.wpOp hi hS ⟨fun _ => hS, H⟩
    · have hjn : j < n := by
        rcases Nat.lt_or_ge j n with h | h
        · exact h
        · exact absurd hj (tail_waits hs hc hn inv _ i rfl hin hun j h)
      have h1 := H.2 j (ready_mono hj hji)
      obtain ⟨hjun, oj, hoj, hw⟩ := mem_ready.1 hj
      have hnot : ∀ e ∈ oj.after, Region.binds md e = true → e.on ≠ i := fun e he hb heq => by
        have h3 := hw e he hb
        rw [heq, getD_both hun] at h3
        cases h3
      have h2 := wpOp_putIf hoj (hfree j oj hoj hji hjun hnot) (fun cs b => hsel i oi cs b hi) (fun cs b => hsel j oj cs b hoj) hQ hy h1
      have hfree' : ∀ k ok, ops[k]? = some ok → k ≠ i → (listed.setIfInBounds j true).getD k true = false →
          (∀ e ∈ ok.after, Region.binds md e = true → e.on ≠ i) → oi.apart ops ok = true := fun k ok hk hki hkun hno => by
        refine hfree k ok hk hki ?_ hno
        by_cases hjk : j = k
        · subst hjk; exact hjun
        · rw [getD_set_ne true hjk] at hkun; exact hkun
      refine wpOp_mono (fun a' w' h3 => ⟨fun _ => h3.2.1 (by omega), ih (listed.setIfInBounds j true) a' w' (inv.set hj hjn) hfree' (ready_mono hr (Ne.symm hji)) h3.1 (h3.2.1 (by omega)) ?_⟩) h2
      rw [Array.setIfInBounds_comm _ _ hji]
      exact h3.2.2

/-- Number i is taken first. -/
theorem sink_take {n i : Nat} {oi : Oper} {v : Value} {fuel : Nat} {listed : Array Bool} {a : Act} {w : World} (hB : (Region.sinkB md ops n && Region.chainB md ops n && decide (n < ops.size) && Region.noSelect ops) = true) (inv : HeadInv md ops n listed) (hi : ops[i]? = some oi)
    (hf : (decide (i < n) && Region.free md ops listed i && (Region.ready md ops listed).contains i) = true)
    (hQ : ∀ c a w, Q (.panic c) (a.put oi.dst v) w → Q (.panic c) a w) (hy : YieldsIf P ops S oi v a) (hS : S w)
    (h : HeadInv md ops n (listed.setIfInBounds i true) → WpSink P md ops Q S n fuel (listed.setIfInBounds i true) (a.put oi.dst v) w) : WpSink P md ops Q S n (fuel + 1) listed a w := by
  simp only [Bool.and_eq_true, decide_eq_true_eq] at hB hf
  obtain ⟨⟨⟨h1, h2⟩, h3⟩, h5⟩ := hB
  obtain ⟨⟨h6, h7⟩, h8⟩ := hf
  have hr : i ∈ Region.ready md ops listed := by simpa using h8
  exact sink_first h1 h2 h3 h6 hi (Region.noSelect_spec h5) hQ fuel listed a w inv (Region.free_spec hi h7) hr hy hS (h (inv.set hr h6))

/-- One operation alone may come up. -/
theorem sink_one {n i : Nat} {o : Oper} {fuel : Nat} {listed : Array Bool} {a : Act} {w : World} (hr : Region.ready md ops listed = [i]) (hi : ops[i]? = some o) (hin : i < n) (inv : HeadInv md ops n listed)
    (h : ∀ K : Act → World → Prop, (∀ a' w', S w' → (S w' → HeadInv md ops n (listed.setIfInBounds i true) → WpSink P md ops Q S n fuel (listed.setIfInBounds i true) a' w') → K a' w') →
      if Region.wanted o (yielded ops a.tmps) = true then Oper.wp P o a w K Q else K (a.put o.dst undef) w) : WpSink P md ops Q S n (fuel + 1) listed a w := by
  refine ⟨fun h0 => (by rw [h0] at hr; cases hr), fun j hj => ?_⟩
  have hji : j = i := by rw [hr] at hj; simpa using hj
  subst hji
  have h9 := h (fun a' w' => (j ≠ n → S w') ∧ WpSink P md ops Q S n fuel (listed.setIfInBounds j true) a' w') (fun a' w' hS hK => ⟨fun _ => hS, hK hS (inv.set hj hin)⟩)
  unfold wpOp
  simp only [hi]
  split
  · rename_i hw
    rw [if_pos hw] at h9
    exact .inl h9
  · rename_i hw
    rw [if_neg hw] at h9
    exact h9

/-- Two operations may come up. -/
theorem sink_two {n i j : Nat} {o o2 : Oper} {fuel : Nat} {listed : Array Bool} {a : Act} {w : World} (hr : Region.ready md ops listed = [i, j]) (hi : ops[i]? = some o) (hj : ops[j]? = some o2) (hin : i < n) (hjn : j < n) (inv : HeadInv md ops n listed)
    (h : ∀ K : Act → World → Prop, (∀ a' w', S w' → (S w' → HeadInv md ops n (listed.setIfInBounds i true) → WpSink P md ops Q S n fuel (listed.setIfInBounds i true) a' w') → K a' w') →
      if Region.wanted o (yielded ops a.tmps) = true then Oper.wp P o a w K Q else K (a.put o.dst undef) w)
    (h2 : ∀ K : Act → World → Prop, (∀ a' w', S w' → (S w' → HeadInv md ops n (listed.setIfInBounds j true) → WpSink P md ops Q S n fuel (listed.setIfInBounds j true) a' w') → K a' w') →
      if Region.wanted o2 (yielded ops a.tmps) = true then Oper.wp P o2 a w K Q else K (a.put o2.dst undef) w) : WpSink P md ops Q S n (fuel + 1) listed a w := by
  refine ⟨fun h0 => (by rw [h0] at hr; cases hr), fun k hk => ?_⟩
  rw [hr] at hk
  rcases List.mem_cons.1 hk with rfl | hk
  · have h9 := h (fun a' w' => (k ≠ n → S w') ∧ WpSink P md ops Q S n fuel (listed.setIfInBounds k true) a' w') (fun a' w' hS hK => ⟨fun _ => hS, hK hS (inv.set (by rw [hr]; exact List.mem_cons_self) hin)⟩)
    unfold wpOp
    simp only [hi]
    split
    · rename_i hw
      rw [if_pos hw] at h9
      exact .inl h9
    · rename_i hw
      rw [if_neg hw] at h9
      exact h9
  · obtain rfl : k = j := by simpa using hk
    have h9 := h2 (fun a' w' => (k ≠ n → S w') ∧ WpSink P md ops Q S n fuel (listed.setIfInBounds k true) a' w') (fun a' w' hS hK => ⟨fun _ => hS, hK hS (inv.set (by rw [hr]; exact List.mem_cons_of_mem _ hk) hjn)⟩)
    unfold wpOp
    simp only [hj]
    split
    · rename_i hw
      rw [if_pos hw] at h9
      exact .inl h9
    · rename_i hw
      rw [if_neg hw] at h9
      exact h9

/-- The last one. -/
theorem sink_last {n : Nat} {o : Oper} {fuel : Nat} {listed : Array Bool} {a : Act} {w : World} (hr : Region.ready md ops listed = [n]) (hi : ops[n]? = some o) (hr2 : Region.ready md ops (listed.setIfInBounds n true) = [])
    (h : ∀ K : Act → World → Prop, (∀ a' w', Q .normal a' w' → K a' w') →
      if Region.wanted o (yielded ops a.tmps) = true then Oper.wp P o a w K Q else K (a.put o.dst undef) w) : WpSink P md ops Q S n (fuel + 1) listed a w := by
  refine ⟨fun h0 => (by rw [h0] at hr; cases hr), fun j hj => ?_⟩
  have hji : j = n := by rw [hr] at hj; simpa using hj
  subst hji
  have h9 := h (fun a' w' => (j ≠ j → S w') ∧ WpSink P md ops Q S j fuel (listed.setIfInBounds j true) a' w') (fun a' w' hq => ⟨fun h => absurd rfl h, by
    cases fuel with
    | zero => exact ⟨hr2, hq⟩
    | succ f => exact ⟨fun _ => hq, fun k hk => by rw [hr2] at hk; cases hk⟩⟩)
  unfold wpOp
  simp only [hi]
  split
  · rename_i hw
    rw [if_pos hw] at h9
    exact .inl h9
  · rename_i hw
    rw [if_neg hw] at h9
    exact h9

theorem region_sink {id n : Nat} {a : Act} {w : World} (S : World → Prop) (hm : P.follows .mixedOrders = true) (hsz : ops.size = n + 1) (hS : S w.drew)
    (h : HeadInv .any ops n (Array.replicate ops.size false) → S w.drew → WpSink P .any ops Q S n (n + 1) (Array.replicate (n + 1) false) a w.drew) : (Code.region id ops true).wp P Q a w := by
  refine wp_region_any hm (any_of_sink (S := S) (n := n) _ _ _ _ ?_)
  have inv : HeadInv .any ops n (Array.replicate ops.size false) := ⟨by simp, fun j oj _ hl => (by rw [getD_replicate_false] at hl; cases hl), fun t _ ht => (by simp [ht])⟩
  have h9 := h inv hS
  rw [hsz]
  exact h9
end
end Go.Proofs.Ythdpajgnigilhaa

/- A region that draws its order, whose last operation waits for all others: those that only read are taken first, all at one stroke; the loud ones come behind them. No program in sight. -/
namespace Go.Proofs.Ythdpajgnigilhaa
open Go.RowKit

namespace Mix
/-- Operations that leave the world as it is and call nothing. -/
def pureB (o : Oper) : Bool := match o.op with
  | .move _ => true
  | .assign _ => true
  | .load _ _ => true
  | .build _ _ => true
  | .binOp _ _ _ _ _ => true
  | .unOp _ _ _ => true
  | .slice _ _ _ _ _ => true
  | .fieldAddr _ _ _ => true
  | .field _ _ _ => true
  | .indexAddr _ _ _ => true
  | .extract _ _ => true
  | .pick _ _ _ => true
  | .nilCheck _ => true
  | .call c => match c.callee with
    | .builtin .len => true
    | _ => false
  | _ => false

theorem of_v {P : Program} {w w' : World} {n : Next} {s : Sem Value} (e : (do pure (Next.value (← s)) : Sem Next).run P w = .ok n w') : ∃ u, n = .value u := by
  simp only [Sem.run_bind, Sem.run_pure] at e
  cases h : s.run P w with
  | ok x w2 =>
    rw [h] at e
    simp only [Result.andThen_ok] at e
    injection e with e1 _
    exact ⟨x, e1.symm⟩
  | halt x w2 =>
    rw [h] at e
    cases e

/-- Whatever comes of it is a value. -/
def NV (s : Sem Next) : Prop := ∀ (P : Program) (w w' : World) (n : Next), s.run P w = .ok n w' → ∃ u, n = .value u
theorem NV.pure (u : Value) : NV (pure (.value u)) := fun P w w' n e => by
  simp only [Sem.run_pure] at e
  injection e with e _
  exact ⟨_, e.symm⟩
theorem NV.bind {α : Type} {s : Sem α} {f : α → Sem Next} (h : ∀ x, NV (f x)) : NV (s >>= f) := fun P w w' n e => by
  simp only [Sem.run_bind] at e
  cases hs : s.run P w with
  | ok x w2 =>
    rw [hs] at e
    simp only [Result.andThen_ok] at e
    exact h x P w2 w' n e
  | halt x w2 =>
    rw [hs] at e
    cases e
theorem NV.v (s : Sem Value) : NV (do Pure.pure (Next.value (← s))) := NV.bind fun x => NV.pure x
theorem NV.ite {c : Prop} [Decidable c] {s t : Sem Next} (h1 : NV s) (h2 : NV t) : NV (if c then s else t) := by
  split
  · exact h1
  · exact h2
theorem NV.panic : NV (runtimePanic .nilDeref) := fun P w w' n h => by
  simp [runtimePanic, goPanic, go_sem] at h

theorem pure_nv {o : Oper} {r : Operand → Value} (h : pureB o = true) : NV (execOp r o) := by
  obtain ⟨d, op, ty, pos, af, g⟩ := o
  unfold pureB at h
  unfold execOp
  cases op
  all_goals first
    | (cases h; done)
    | exact NV.pure _
    | exact NV.v _
    | exact NV.bind fun x => NV.pure _
    | skip
  case nilCheck x =>
    dsimp only
    split
    all_goals first
      | exact NV.panic
      | exact NV.pure _
      | skip
    split
    all_goals first
      | exact NV.panic
      | exact NV.pure _
      | skip
    exact NV.bind fun x => NV.bind fun y => NV.ite (NV.bind fun _ => NV.pure _) (NV.pure _)
  case call c =>
    obtain ⟨callee, args, ats⟩ := c
    cases callee
    case builtin b =>
      cases b
      all_goals first
        | (cases h; done)
        | skip
      intro P w w' n e
      simp only [resolve, invoke, Sem.run_bind, Sem.run_pure, Result.andThen_ok] at e
      exact NV.v _ P w w' n e
    all_goals cases h

section
variable {P : Program} {ops : Array Oper} {Q : Exit → Act → World → Prop} {md : Region.Mode} {S : World → Prop}

/-- Those at ks may be taken first, one behind the other. -/
def takeOk (md : Region.Mode) (ops : Array Oper) (n : Nat) : List Nat → Array Bool → Bool
  | [], _ => true
  | k :: ks, listed => decide (k < n) && Region.free md ops listed k && (Region.ready md ops listed).contains k && (match ops[k]? with | some o => pureB o | none => false) && takeOk md ops n ks (listed.setIfInBounds k true)
def nth : List Oper → Nat → Option Oper
  | [], _ => none
  | o :: _, 0 => some o
  | _ :: l, k + 1 => nth l k
theorem nth_eq : ∀ (l : List Oper) (k : Nat), nth l k = l.toArray[k]?
  | [], _ => by simp [nth]
  | o :: l, 0 => by simp [nth]
  | o :: l, k + 1 => by rw [nth, nth_eq l k]; simp
def picks (l : List Oper) (ks : List Nat) : List Oper := ks.filterMap fun k => l.toArray[k]?
theorem picks_step {l : List Oper} {C : World → Prop} {K : Act → Prop} {a : Act} {k : Nat} {ks : List Nat} {o : Oper} (h : nth l k = some o) (hw : wpQuiet P l.toArray C K (o :: picks l ks) a) : wpQuiet P l.toArray C K (picks l (k :: ks)) a := by
  rw [nth_eq] at h
  unfold picks at hw ⊢
  rw [List.filterMap_cons, h]
  exact hw
theorem picks_nil {l : List Oper} {C : World → Prop} {K : Act → Prop} {a : Act} (h : K a) : wpQuiet P l.toArray C K (picks l []) a := h
def setAll (ks : List Nat) (listed : Array Bool) : Array Bool := ks.foldl (fun l k => l.setIfInBounds k true) listed

theorem quiet_yields {o : Oper} {a : Act} {K : Act → Prop} (hp : pureB o = true) (hw : Region.wanted o (yielded ops a.tmps) = true) (h : o.quiet P a S K) : ∃ v, YieldsIf P ops S o v a ∧ K (a.put o.dst v) := by
  obtain ⟨v, h1, h2⟩ := h
  refine ⟨v, .inl ⟨hw, fun w hw2 => ?_⟩, h2⟩
  have h3 := h1 w hw2
  unfold Oper.quietAt at h3
  cases hr : (execOp a.eval o).run P w with
  | ok n w' =>
    obtain ⟨u, rfl⟩ := pure_nv hp P w w' n hr
    rw [hr] at h3
    simp only [Oper.quietUpon] at h3
    rw [h3.1, h3.2]
  | halt x w' =>
    rw [hr] at h3
    simp only [Oper.quietUpon] at h3

theorem sink_bulk {n : Nat} (hB : (Region.sinkB md ops n && Region.chainB md ops n && decide (n < ops.size) && Region.noSelect ops) = true) (hQ : ∀ c a d v w, Q (.panic c) (Act.put a d v) w → Q (.panic c) a w) :
    ∀ (ks : List Nat) (listed : Array Bool) (a : Act) (w : World) (fuel : Nat), takeOk md ops n ks listed = true → HeadInv md ops n listed → S w →
      wpQuiet P ops S (fun a' => HeadInv md ops n (setAll ks listed) → WpSink P md ops Q S n fuel (setAll ks listed) a' w) (ks.filterMap fun k => ops[k]?) a → WpSink P md ops Q S n (ks.length + fuel) listed a w
  | [], listed, a, w, fuel, _, inv, _, h => by
    rw [List.length_nil, Nat.zero_add]
    exact h inv
  | k :: ks, listed, a, w, fuel, ht, inv, hS, h => by
    simp only [takeOk, Bool.and_eq_true] at ht
    obtain ⟨⟨⟨⟨hk, hf⟩, hr⟩, hp⟩, ht⟩ := ht
    have hkn : k < n := of_decide_eq_true hk
    have hB' := hB
    simp only [Bool.and_eq_true, decide_eq_true_eq] at hB'
    obtain ⟨⟨⟨h1, h2⟩, h3⟩, h5⟩ := hB'
    cases ho : ops[k]? with
    | none => rw [ho] at hp; cases hp
    | some o =>
      rw [ho] at hp
      have hp' : pureB o = true := hp
      simp only [List.filterMap_cons, ho] at h
      have hrk : k ∈ Region.ready md ops listed := by simpa using hr
      have e : (k :: ks).length + fuel = (ks.length + fuel) + 1 := by rw [List.length_cons]; omega
      rw [e]
      unfold wpQuiet at h
      have key : ∃ v, YieldsIf P ops S o v a ∧ wpQuiet P ops S (fun a' => HeadInv md ops n (setAll (k :: ks) listed) → WpSink P md ops Q S n fuel (setAll (k :: ks) listed) a' w) (ks.filterMap fun k => ops[k]?) (a.put o.dst v) := by
        by_cases hw : Region.wanted o (yielded ops a.tmps) = true
        · rw [if_pos hw] at h
          exact quiet_yields hp' hw h
        · rw [if_neg hw] at h
          exact ⟨undef, .inr ⟨by simpa using hw, rfl⟩, h⟩
      obtain ⟨v, hy, hK⟩ := key
      exact sink_first h1 h2 h3 hkn ho (Region.noSelect_spec h5) (fun c a w => hQ c a _ _ w) (ks.length + fuel) listed a w inv (Region.free_spec ho hf) hrk hy hS
        (sink_bulk hB hQ ks _ _ w fuel ht (inv.set hrk hkn) hS hK)

theorem wp_norm {c : Code} {a : Act} {w : World} (h : c.wp P (fun e a W => e = .normal ∧ Q .normal a W) a w) : c.wp P Q a w := Code.wp_mono (by rintro e a W ⟨rfl, h⟩; exact h) h

/-- A region: those at ks, that only read, first; then as XSink goes. -/
theorem region_mix {id n m : Nat} {l : List Oper} {a : Act} {w : World} (S : World → Prop) (ks : List Nat) (hm : P.follows .mixedOrders = true) (hsz : l.toArray.size = n + 1) (hm2 : ks.length + m = n + 1)
    (hB : (Region.sinkB .any l.toArray n && Region.chainB .any l.toArray n && decide (n < l.toArray.size) && Region.noSelect l.toArray) = true) (ht : takeOk .any l.toArray n ks (Array.replicate (n + 1) false) = true) (hS0 : S w.drew)
    (h : wpQuiet P l.toArray S (fun a' => HeadInv .any l.toArray n (setAll ks (Array.replicate (n + 1) false)) → WpSink P .any l.toArray (fun e a W => e = .normal ∧ Q .normal a W) S n m (setAll ks (Array.replicate (n + 1) false)) a' w.drew) (picks l ks) a) : (Code.region id l.toArray true).wp P Q a w :=
  wp_norm (region_sink (n := n) S hm hsz hS0 (fun inv hS => by
    rw [hsz] at inv
    have := sink_bulk hB (fun _ _ _ _ _ h => by cases h.1) ks (Array.replicate (n + 1) false) a w.drew m ht inv hS h
    rw [hm2] at this
    exact this))
end
end Mix
end Go.Proofs.Ythdpajgnigilhaa

/- XMix goes on: more operations that only read, at one stroke, in the midst of a region. No program in sight. -/
namespace Go.Proofs.Ythdpajgnigilhaa
open Go.RowKit

namespace Mix
theorem more {P : Program} {Q : Exit → Act → World → Prop} {S : World → Prop} {n m f : Nat} {l : List Oper} {listed : Array Bool} {a : Act} {w : World} (ks : List Nat) (hm2 : ks.length + m = f)
    (hB : (Region.sinkB .any l.toArray n && Region.chainB .any l.toArray n && decide (n < l.toArray.size) && Region.noSelect l.toArray) = true) (ht : takeOk .any l.toArray n ks listed = true) (inv : HeadInv .any l.toArray n listed) (hS : S w)
    (h : wpQuiet P l.toArray S (fun a' => HeadInv .any l.toArray n (setAll ks listed) → WpSink P .any l.toArray (fun e a W => e = .normal ∧ Q .normal a W) S n m (setAll ks listed) a' w) (picks l ks) a) :
    WpSink P .any l.toArray (fun e a W => e = .normal ∧ Q .normal a W) S n f listed a w := by
  subst hm2
  exact sink_bulk hB (fun _ _ _ _ _ h => by cases h.1) ks listed a w m ht inv hS h
end Mix
end Go.Proofs.Ythdpajgnigilhaa

/- arboretumref22.Net: put. (Printed by gen-netref.py.) -/
namespace Go.Proofs.Ythdpajgnigilhaa
open Go.RowKit

theorem info_sent : (Try.prog.info? 65).map (fun i => (i.zero, i.size, i.bytes)) = some (some (.agg #[.int .i64 0, .int .i64 0, .int .i64 0, .string ByteArray.empty]), 4, 40) := by kernel_rfl
theorem st_T : RowT Try.prog 42 65 scells 4 40 :=
  RowT.of Try.underlying42 info_sent rfl (by omega) scells_length (fun x u hu => by
    simp only [scells, List.mem_cons, List.not_mem_nil, or_false] at hu
    rcases hu with rfl | rfl | rfl | rfl <;> rfl) (by omega)
def ccells (x : Int × Int) : List Value := [.int .i64 x.1, .int .i64 x.2]
theorem ccells_length (x : Int × Int) : (ccells x).length = 2 := rfl

/-- The reference's net: its packets, what is cut. -/
structure RNI (rb base : Nat) (v1 v2 : Value) (L : List St) (C : List (Int × Int)) (w : World) : Prop where
  c0 : w.cell? ⟨rb, 0, none⟩ = some v1
  f0 : w.frozen? ⟨rb, 0, none⟩ = false
  c1 : w.cell? ⟨rb, 1, none⟩ = some v2
  f1 : w.frozen? ⟨rb, 1, none⟩ = false
  o1 : w.ownsRow base 65 4 v1 L.length (rowOf scells L)
  o2 : w.ownsRow base 82 2 v2 C.length (rowOf ccells C)
  n1 : v1.ownBlock ≠ some rb
  n2 : v2.ownBlock ≠ some rb
  bs : base ≤ w.heap.size
def rnF (rb : Nat) (v1 v2 : Value) (k : Nat) : Prop := k = rb ∨ v1.ownBlock = some k ∨ v2.ownBlock = some k

section
variable {rb base : Nat} {v1 v2 : Value} {L : List St} {C : List (Int × Int)} {w w' : World}
theorem RNI.keep (h : RNI rb base v1 v2 L C w) {S : Nat → Prop} (hf : Fr S w w') (hS : ∀ k, rnF rb v1 v2 k → ¬ S k) : RNI rb base v1 v2 L C w' :=
  have h1 := hS rb (.inl rfl)
  ⟨(hf.cell (p := ⟨rb, 0, none⟩) (cell_lt h.c0) h1).trans h.c0, (hf.frozen (p := ⟨rb, 0, none⟩) (cell_lt h.c0) h1).trans h.f0, (hf.cell (p := ⟨rb, 1, none⟩) (cell_lt h.c1) h1).trans h.c1, (hf.frozen (p := ⟨rb, 1, none⟩) (cell_lt h.c1) h1).trans h.f1,
    hf.owns h.o1 (fun g hg => hS g (.inr (.inl hg))), hf.owns h.o2 (fun g hg => hS g (.inr (.inr hg))), h.n1, h.n2, Nat.le_trans h.bs hf.size⟩
theorem RNI.below (h : RNI rb base v1 v2 L C w) (hb : Below w.heap.size w w') : RNI rb base v1 v2 L C w' := h.keep (Fr.of_all (S := fun _ => False) hb) (fun _ _ h => h)
theorem RNI.lt (h : RNI rb base v1 v2 L C w) : ∀ k, rnF rb v1 v2 k → k < w.heap.size := by
  rintro k (rfl | hk | hk)
  · exact cell_lt h.c0
  · exact (h.o1.lt k hk).2
  · exact (h.o2.lt k hk).2
theorem RNI.ge (h : RNI rb base v1 v2 L C w) (hb : base ≤ rb) : ∀ k, rnF rb v1 v2 k → base ≤ k := by
  rintro k (rfl | hk | hk)
  · exact hb
  · exact (h.o1.lt k hk).1
  · exact (h.o2.lt k hk).1

theorem owns_less {w : World} {base base' n : Nat} {e : TypeId} {size : Nat} {v : Value} {xs : List Value} (h : w.ownsRow base e size v n xs) (hb : base' ≤ base) : w.ownsRow base' e size v n xs := by
  refine ⟨h.1, ?_⟩
  rcases h.2 with h | ⟨g, cap, cur, hv, hg, h2⟩
  · exact .inl h
  · exact .inr ⟨g, cap, cur, hv, Nat.le_trans hb hg, h2⟩
theorem owns_caps {w : World} {base g n cap size : Nat} {e : TypeId} {xs : List Value} (h : w.ownsRow base e size (.slice (some ⟨g, 0, none⟩) n cap) n xs) : n ≤ cap ∧ cap ≤ 9223372036854775807 := by
  rcases h.2 with ⟨h, _⟩ | ⟨_, _, _, h, _, _, hc, hm, _⟩
  · cases h
  · injection h with _ _ h
    subst h
    unfold maxLen at hm
    exact ⟨hc, hm⟩
/-- A row that is owned: nil, or a block of its own. -/
theorem owns_two {w : World} {base n size : Nat} {e : TypeId} {v : Value} {xs : List Value} (h : w.ownsRow base e size v n xs) : (v = .slice none 0 0 ∧ n = 0) ∨ ∃ g c, v = .slice (some ⟨g, 0, none⟩) n c ∧ g < w.heap.size := by
  rcases h.2 with ⟨h1, h2⟩ | ⟨g, cap, cur, hv, hg, h2, _⟩
  · exact .inl ⟨h1, h2⟩
  · exact .inr ⟨g, cap, hv, (Array.getElem?_eq_some_iff.1 h2).1⟩
/-! What appends leave. -/
theorem rg_one {α : Type} {f : α → List Value} {te : TypeId} {size B k : Nat} {w W w3 : World} {v3 : Value} {us : List α} (hb : Below B w W) (ho : w3.ownsRow B te size v3 (0 + k) ([] ++ rowOf f us)) (hg : W.grownBy w3 (Value.slice none 0 0).ownBlock) (hB : B = w.heap.size := by rfl) : w3.ownsRow B te size v3 k (rowOf f us) ∧ Below B w w3 := by
  rw [Nat.zero_add, List.nil_append] at ho
  exact ⟨ho, hb.grown hg (by rw [hB]; exact hb.size) (fun k hk => by cases hk)⟩
theorem rg_two {te : TypeId} {size B n m : Nat} {w w3 w4 : World} {v3 v4 : Value} {us : List Value} {vs : List Value} (ho : w3.ownsRow B te size v3 n us) (hb : Below B w w3) (ho4 : w4.ownsRow B te size v4 (n + m) (us ++ vs)) (hg : w3.grownBy w4 v3.ownBlock ∨ ∃ X, (w3.alloc X).grownBy w4 v3.ownBlock) (hB : B = w.heap.size := by rfl) : w4.ownsRow B te size v4 (n + m) (us ++ vs) ∧ Below B w w4 := by
  refine ⟨ho4, ?_⟩
  have hs := hb.size
  rcases hg with hg | ⟨X, hg⟩
  · exact hb.grown hg (by omega) (fun k hk => (ho.lt k hk).1)
  · exact (hb.alloc (by omega) X).grown hg (by simp; omega) (fun k hk => (ho.lt k hk).1)
theorem RdG.far {α : Type} {f : α → List Value} {W w3 : World} {p : Option Addr} {n : Nat} {zs : List α} (h : RdG f W W.heap.size p n zs) (hg : W.grownBy w3 (Value.slice none 0 0).ownBlock) : RdG f w3 w3.heap.size p n zs :=
  (h.below ((Below.refl W.heap.size W).grown hg (Nat.le_refl _) (fun k hk => by cases hk))).more hg.size
theorem rd_newS (w : World) (x : St) (t : TypeId) : RdG scells (w.alloc (.cells #[.int .i64 x.at', .int .i64 x.fr, .int .i64 x.to, .string x.da] t)) (w.alloc (.cells #[.int .i64 x.at', .int .i64 x.fr, .int .i64 x.to, .string x.da] t)).heap.size (some ⟨w.heap.size, 0, none⟩) 1 [x] := by
  have e := RdG.fresh (f := scells) w [x] t
  exact RdG.more e (by simp)
/-- A function without results ends behind what is walked. -/
theorem wp_ends {P : Program} {c : Code} {a : Act} {w : World} {fn : Func} {R : Ending → World → Prop} (hr : fn.results = #[]) (h : c.wp P (fun e a W => e = .normal ∧ a.defers = [] ∧ R (.returned (.tuple #[])) W) a w) : c.wp P (bodyPost P fn R) a w :=
  Code.wp_mono (by rintro e a W ⟨rfl, hd, hR⟩; exact bodyPost_end (results_none hr _ _ _) hd hR) h

/-- What one packet of the row is. -/
theorem RNI.cells {n c g : Nat} (h : RNI rb base (.slice (some ⟨g, 0, none⟩) n c) v2 L C w) (k : Nat) (hk : k < L.length) :
    w.cell? ⟨g, k * 4, none⟩ = some (.int .i64 (HL.el L k).at') ∧ w.cell? ⟨g, k * 4 + 1, none⟩ = some (.int .i64 (HL.el L k).fr) ∧ w.cell? ⟨g, k * 4 + 2, none⟩ = some (.int .i64 (HL.el L k).to) ∧ w.cell? ⟨g, k * 4 + 3, none⟩ = some (.string (HL.el L k).da) := by
  have ho := h.o1
  have hc : ∀ t, t < 4 → w.cell? ⟨g, k * 4 + t, none⟩ = (scells (HL.el L k))[t]? := fun t ht => by
    have r := rowOf_at scells scells_length L k t hk ht
    have e1 : L.getD k default = HL.el L k := rfl
    rw [e1] at r
    have hs : (scells (HL.el L k))[t]? = some ((scells (HL.el L k))[t]'(by rw [scells_length]; exact ht)) := List.getElem?_eq_getElem _
    rw [hs] at r ⊢
    have e2 := ho.cells (g := g) rfl _ _ r
    rw [add_at, Nat.zero_add] at e2
    exact e2
  exact ⟨hc 0 (by omega), hc 1 (by omega), hc 2 (by omega), hc 3 (by omega)⟩
theorem RNI.rd {n c g : Nat} (h : RNI rb base (.slice (some ⟨g, 0, none⟩) n c) v2 L C w) (hn : L.length = n) : RdG scells w w.heap.size (some ⟨g, 0, none⟩) n L := by
  subst hn
  exact RdG.of_own h.o1 rfl

/-- The net with another row. -/
theorem RNI.row {n5 : Nat} {v5 : Value} {L' : List St} {W w5 : World} (hI : RNI rb base v1 v2 L C w) (hb : Below w.heap.size w W) (hb5 : Below W.heap.size W w5) (ho : w5.ownsRow W.heap.size 65 4 v5 n5 (rowOf scells L')) (hl : L'.length = n5) :
    RNI rb base v5 v2 L' C (w5.setCell ⟨rb, 0, none⟩ v5) ∧ Fr (fun k => k = rb) w (w5.setCell ⟨rb, 0, none⟩ v5) ∧ ∀ g, v5.ownBlock = some g → w.heap.size ≤ g := by
  subst hl
  have hlt := cell_lt hI.c0
  have hF0 : Fr (fun _ => False) w w5 := Fr.of_all (hb.trans (hb5.mono hb.size))
  have hI5 := hI.keep hF0 (fun _ _ h => h)
  have hF : Fr (fun k => k = rb) w5 (w5.setCell ⟨rb, 0, none⟩ v5) := (Fr.refl (fun k => k = rb) w5).setCell (p := ⟨rb, 0, none⟩) (fun _ => rfl) _
  have hbs := hb.size
  have hbs5 := hb5.size
  have hne : ∀ g, v5.ownBlock = some g → g ≠ rb := fun g hg e => by
    have h1 := (ho.lt g hg).1
    have h3 : rb < w.heap.size := hlt
    omega
  have hbase := hI.bs
  refine ⟨⟨cell_set_same _ _ _ _ hI5.c0, by rw [frozen_set]; exact hI5.f0, ?_, by rw [frozen_set]; exact hI5.f1, owns_less (hF.owns ho (fun g hg => hne g hg)) (by omega), hF.owns hI5.o2 (fun g hg e => hI.n2 (by rw [hg, e])), fun h => hne rb h rfl, hI.n2, Nat.le_trans hI5.bs hF.size⟩, Fr.trans (hF0.mono (fun _ _ h => h.elim)) hF (fun i hi _ => hi), fun g hg => Nat.le_trans hbs (ho.lt g hg).1⟩
  rw [World.cell?_setCell_other _ _ _ _ (by simp)]; exact hI5.c1
end

set_option maxHeartbeats 4000000 in
set_option maxRecDepth 100000 in
theorem rn_put_some (rb base g n c : Nat) (v2 : Value) (L : List St) (C : List (Int × Int)) (at' fr to : Int) (da : ByteArray) (w : World) (h : RNI rb base (.slice (some ⟨g, 0, none⟩) n c) v2 L C w) (hL : L.length = n) (hn : n ≤ 10000) :
    Calls Try.prog 39 #[.pointer (some ⟨rb, 0, none⟩), .int .i64 at', .agg #[.int .i64 fr, .int .i64 to, .string da]] w fun e w' => e = .returned (.tuple #[]) ∧ ∃ v', RNI rb base v' v2 (insS L ⟨at', fr, to, da⟩) C w' ∧ Fr (fun k => k = rb) w w' ∧ ∀ g, v'.ownBlock = some g → w.heap.size ≤ g := by
  have H := Lib.hid h
  have hcaps : n ≤ c ∧ c ≤ 9223372036854775807 := by have := h.o1; rw [hL] at this; exact owns_caps this
  obtain ⟨hcap, hcm⟩ := hcaps
  have hrlt := cell_lt h.c0
  have hglt : g < w.heap.size := (h.o1.lt g rfl).2
  obtain ⟨W0, hW0⟩ : ∃ W0, W0 = w.alloc (.cells #[.int .i64 fr, .int .i64 to, .string da] 60) := ⟨_, rfl⟩
  have HB0 : Hid (Below w.heap.size w W0) := Lib.hid (by rw [hW0]; exact (Below.refl _ w).alloc (Nat.le_refl _) _)
  have hs0 : W0.heap.size = w.heap.size + 1 := by rw [hW0]; simp
  have HX0 : Hid (W0.cell? ⟨w.heap.size, 0, none⟩ = some (.int .i64 fr) ∧ W0.cell? ⟨w.heap.size, 1, none⟩ = some (.int .i64 to) ∧ W0.cell? ⟨w.heap.size, 2, none⟩ = some (.string da)) := Lib.hid (by subst hW0; exact ⟨by go_simp, by go_simp, by go_simp⟩)
  have c0 : W0.cell? ⟨rb, 0, none⟩ = some (.slice (some ⟨g, 0, none⟩) n c) := (HB0.out.cell (p := ⟨rb, 0, none⟩) hrlt).trans h.c0
  have HCELL : Hid (∀ k, k < n → W0.cell? ⟨g, k * 4, none⟩ = some (.int .i64 (HL.el L k).at')) := Lib.hid (fun k hk => (HB0.out.cell (p := ⟨g, k * 4, none⟩) hglt).trans (h.cells k (by omega)).1)
  have HFZ0 : Hid (W0.frozen? ⟨rb, 0, none⟩ = false) := Lib.hid (((Fr.of_all (S := fun _ => False) HB0.out).frozen (p := ⟨rb, 0, none⟩) hrlt (fun h => h)).trans h.f0)
  have HRD := Lib.hid ((h.rd hL).below HB0.out)
  have HLn := Lib.hid hL
  have HW0 := Lib.hid hW0
  clear h hL hW0
  go_enter Try.func39, Try.ntmps39
  go_wp2
  rename_i Q' K hK
  rw [← HW0.out]
  have TAIL : Hid (∀ (k : Nat) (u2 u3 u4 u7 u8 u9 u10 u11 u12 u13 u14 u15 u16 u17 u18 u19 u20 u21 u22 u23 u24 u25 u26 u27 u28 u29 u30 u31 u32 u33 u34 u35 u36 u37 u38 u39 u40 u41 u42 u43 u44 u45 u46 u47 u48 u49 : Value), k ≤ n → insS L ⟨at', fr, to, da⟩ = L.take k ++ [⟨at', fr, to, da⟩] ++ L.drop k → K ⟨#[.pointer (some ⟨rb, 0, none⟩), .int .i64 at', u2, u3, u4, .pointer (some ⟨w.heap.size, 0, none⟩), .int .i64 k, u7, u8, u9, u10, u11, u12, u13, u14, u15, u16, u17, u18, u19, u20, u21, u22, u23, u24, u25, u26, u27, u28, u29, u30, u31, u32, u33, u34, u35, u36, u37, u38, u39, u40, u41, u42, u43, u44, u45, u46, u47, u48, u49], []⟩ W0) := by
    refine Lib.hid ?_
    intro k u2 u3 u4 u7 u8 u9 u10 u11 u12 u13 u14 u15 u16 u17 u18 u19 u20 u21 u22 u23 u24 u25 u26 u27 u28 u29 u30 u31 u32 u33 u34 u35 u36 u37 u38 u39 u40 u41 u42 u43 u44 u45 u46 u47 u48 u49 hk hins
    refine hK _ _ ?_
    clear hK
    have HINS := Lib.hid hins
    have hrl0 : rb < W0.heap.size := by omega
    have hgl0 : g < W0.heap.size := by omega
    have hbl0 : w.heap.size < W0.heap.size := by omega
    have HT := Lib.hid ((HRD.out.more (by omega : w.heap.size ≤ W0.heap.size)).takes scells_length hk)
    have HD := Lib.hid ((HRD.out.more (by omega : w.heap.size ≤ W0.heap.size)).drops scells_length hk)
    rw [Nat.zero_add] at HD
    have HBd : Hid (Below W0.heap.size W0 W0.drew) := Lib.hid (((Fr.refl (fun _ => False) W0).drew).below (Nat.le_refl _) (fun _ h => h.elim))
    have HBa : Hid (∀ o, Below W0.heap.size W0 (W0.drew.alloc o)) := Lib.hid (fun o => HBd.out.alloc (Nat.le_refl _) o)
    have HC : Hid (∀ V, Below W0.heap.size W0 V → V.cell? ⟨rb, 0, none⟩ = some (.slice (some ⟨g, 0, none⟩) n c)) := Lib.hid (fun V hV => (hV.cell (p := ⟨rb, 0, none⟩) hrl0).trans c0)
    have HFZ : Hid (∀ V, Below W0.heap.size W0 V → V.frozen? ⟨rb, 0, none⟩ = false) := Lib.hid (fun V hV => ((Fr.of_all (S := fun _ => False) hV).frozen (p := ⟨rb, 0, none⟩) hrl0 (fun h => h)).trans HFZ0.out)
    have q0 : ∀ q : Later W0, q.1.cell? ⟨rb, 0, none⟩ = some (.slice (some ⟨g, 0, none⟩) n c) := fun q => HC.out _ q.2
    have b0 : ∀ q : Later W0, q.1.cell? ⟨w.heap.size, 0, none⟩ = some (.int .i64 fr) := fun q => (q.2.cell (p := ⟨w.heap.size, 0, none⟩) hbl0).trans HX0.out.1
    have b1 : ∀ q : Later W0, q.1.cell? ⟨w.heap.size, 1, none⟩ = some (.int .i64 to) := fun q => (q.2.cell (p := ⟨w.heap.size, 1, none⟩) hbl0).trans HX0.out.2.1
    have b2 : ∀ q : Later W0, q.1.cell? ⟨w.heap.size, 2, none⟩ = some (.string da) := fun q => (q.2.cell (p := ⟨w.heap.size, 2, none⟩) hbl0).trans HX0.out.2.2
    have hLn := HLn.out
    clear hins c0
    refine wp_ends rfl ?_
    go_wp2_with fail
    rcases Nat.lt_or_ge k c with hck | hck
    · have hkc : k ≤ c := by omega
      have hck2 : ¬ c = k := by omega
      refine Mix.region_mix (n := 22) (m := 7) (fun V => ∃ q : Later W0, V = q.1) [0, 1, 2, 3, 4, 5, 6, 8, 9, 10, 13, 14, 15, 16, 17, 18] (by kernel_rfl) rfl rfl (by kernel_rfl) (by kernel_rfl) ⟨⟨W0.drew, HBd.out⟩, rfl⟩ ?_
      repeat (refine Mix.picks_step rfl ?_; go_big_quiet_step (fail))
      refine Mix.picks_nil ?_
      intro inv
      refine sink_two (i := 7) (j := 11) (by kernel_rfl) rfl rfl (by omega) (by omega) inv (fun K hK => ?_) (fun K hK => ?_)
      · have HKK := Lib.hid hK
        clear hK
        refine RowT.step st_T rfl _ _ rfl W0.heap.size (.slice none 0 0) 0 [] rfl (World.ownsRow_nil _ _ _ _) (m := k) (zs := (L.take k)) rfl (HT.out.below HBd.out) (fun h => by cases h) (by omega) (by simp) ?_
        intro v3 w3 hown3 hgr3 _
        have H3 := Lib.hid (rg_one (B := W0.heap.size) (w := W0) HBd.out hown3 hgr3)
        clear hown3 hgr3
        refine HKK.out _ _ ⟨⟨_, H3.out.2⟩, rfl⟩ ?_
        clear HKK inv
        intro hS inv
        (try simp only [Act.put]); (try simp only [List.setIfInBounds_toArray]); (try simp only [List.set_cons_succ]); (try simp only [List.set_cons_zero])
        refine sink_one (i := 11) (by kernel_rfl) rfl (by omega) inv (fun K hK => ?_)
        have HKK := Lib.hid hK
        clear hK
        go_simp
        refine HKK.out _ _ ⟨⟨_, (H3.out.2.alloc H3.out.2.size _)⟩, rfl⟩ ?_
        clear HKK inv
        intro hS inv
        (try simp only [Act.put]); (try simp only [List.setIfInBounds_toArray]); (try simp only [List.set_cons_succ]); (try simp only [List.set_cons_zero])
        refine sink_one (i := 12) (by kernel_rfl) rfl (by omega) inv (fun K hK => ?_)
        have HKK := Lib.hid hK
        clear hK
        refine RowT.step st_T rfl _ _ rfl W0.heap.size v3 k (rowOf scells (L.take k)) rfl (H3.out.1.alloc _) (m := 1) (zs := [⟨at', fr, to, da⟩]) rfl (rd_newS w3 ⟨at', fr, to, da⟩ _) (fun h => by cases h) (by omega) (by have := H3.out.2.size; first | omega | (simp; omega)) ?_
        intro v4 w4 hown4 hgr4 _
        have H4 := Lib.hid (rg_two H3.out.1 H3.out.2 hown4 (.inr ⟨_, hgr4⟩))
        clear hown4 hgr4
        refine HKK.out _ _ ⟨⟨_, H4.out.2⟩, rfl⟩ ?_
        clear HKK inv
        intro hS inv
        (try simp only [Act.put]); (try simp only [List.setIfInBounds_toArray]); (try simp only [List.set_cons_succ]); (try simp only [List.set_cons_zero])
        refine sink_one (i := 19) (by kernel_rfl) rfl (by omega) inv (fun K hK => ?_)
        have HKK := Lib.hid hK
        clear hK
        refine RowT.step st_T rfl _ _ rfl W0.heap.size v4 (k + 1) (rowOf scells (L.take k) ++ rowOf scells [⟨at', fr, to, da⟩]) rfl H4.out.1 (m := n - k) (zs := (L.drop k)) (B := W0.heap.size) rfl (HD.out.below H4.out.2) (fun h => by cases h) (by omega) (H4.out.2.size) ?_
        intro v5 w5 hown5 hgr5 _
        obtain ⟨p5, c5, hv5⟩ := owns_slice hown5
        subst hv5
        have H5 := Lib.hid (rg_two (n := k + 1) H4.out.1 H4.out.2 hown5 (.inl hgr5))
        have cq5 := (HC.out w5 H5.out.2)
        have fq5 := HFZ.out w5 H5.out.2
        clear hown5 hgr5
        refine HKK.out _ _ ⟨⟨_, H5.out.2⟩, rfl⟩ ?_
        clear HKK inv
        intro hS inv
        (try simp only [Act.put]); (try simp only [List.setIfInBounds_toArray]); (try simp only [List.set_cons_succ]); (try simp only [List.set_cons_zero])
        refine sink_one (i := 20) (by kernel_rfl) rfl (by omega) inv (fun K hK => ?_)
        have HKK := Lib.hid hK
        clear hK
        go_simp
        refine HKK.out _ _ ⟨⟨_, H5.out.2⟩, rfl⟩ ?_
        clear HKK inv
        intro hS inv
        (try simp only [Act.put]); (try simp only [List.setIfInBounds_toArray]); (try simp only [List.set_cons_succ]); (try simp only [List.set_cons_zero])
        refine sink_one (i := 21) (by kernel_rfl) rfl (by omega) inv (fun K hK => ?_)
        have HKK := Lib.hid hK
        clear hK
        go_simp
        refine HKK.out _ _ ⟨⟨_, H5.out.2⟩, rfl⟩ ?_
        clear HKK inv
        intro hS inv
        (try simp only [Act.put]); (try simp only [List.setIfInBounds_toArray]); (try simp only [List.set_cons_succ]); (try simp only [List.set_cons_zero])
        refine sink_last (by kernel_rfl) rfl (by kernel_rfl) (fun K hK => ?_)
        have HKK := Lib.hid hK
        clear hK
        go_simp
        refine HKK.out _ _ ⟨rfl, rfl, rfl, ?_⟩
        clear HKK inv hS
        obtain ⟨h1, h2, h3⟩ := RNI.row (L' := insS L ⟨at', fr, to, da⟩) H.out HB0.out H5.out.2 (by have e := H5.out.1; rw [HINS.out]; simpa [rowOf_append, rowOf] using e) (by rw [insS_length]; omega)
        exact ⟨rfl, _, h1, h2, h3⟩
      · have HKK := Lib.hid hK
        clear hK
        go_simp
        refine HKK.out _ _ ⟨⟨_, HBa.out _⟩, rfl⟩ ?_
        clear HKK inv
        intro hS inv
        (try simp only [Act.put]); (try simp only [List.setIfInBounds_toArray]); (try simp only [List.set_cons_succ]); (try simp only [List.set_cons_zero])
        refine sink_one (i := 7) (by kernel_rfl) rfl (by omega) inv (fun K hK => ?_)
        have HKK := Lib.hid hK
        clear hK
        refine RowT.step st_T rfl _ _ rfl W0.heap.size (.slice none 0 0) 0 [] rfl (World.ownsRow_nil _ _ _ _) (m := k) (zs := (L.take k)) rfl (HT.out.below (HBa.out _)) (fun h => by cases h) (by omega) (by simp) ?_
        intro v3 w3 hown3 hgr3 _
        have H3 := Lib.hid (rg_one (B := W0.heap.size) (w := W0) (HBa.out _) hown3 hgr3)
        have HX3 : Hid (RdG scells w3 w3.heap.size (some ⟨w.heap.size + 1, 0, none⟩) 1 [⟨at', fr, to, da⟩]) := Lib.hid (by have e := RdG.far (rd_newS W0.drew ⟨at', fr, to, da⟩ 65) hgr3; rw [show W0.drew.heap.size = w.heap.size + 1 from hs0] at e; exact e)
        clear hown3 hgr3
        refine HKK.out _ _ ⟨⟨_, H3.out.2⟩, rfl⟩ ?_
        clear HKK inv
        intro hS inv
        (try simp only [Act.put]); (try simp only [List.setIfInBounds_toArray]); (try simp only [List.set_cons_succ]); (try simp only [List.set_cons_zero])
        refine sink_one (i := 12) (by kernel_rfl) rfl (by omega) inv (fun K hK => ?_)
        have HKK := Lib.hid hK
        clear hK
        refine RowT.step st_T rfl _ _ rfl W0.heap.size v3 k (rowOf scells (L.take k)) rfl H3.out.1 (m := 1) (zs := [⟨at', fr, to, da⟩]) rfl HX3.out (fun h => by cases h) (by omega) (by have := H3.out.2.size; first | omega | (simp; omega)) ?_
        intro v4 w4 hown4 hgr4 _
        have H4 := Lib.hid (rg_two H3.out.1 H3.out.2 hown4 (.inl hgr4))
        clear hown4 hgr4
        refine HKK.out _ _ ⟨⟨_, H4.out.2⟩, rfl⟩ ?_
        clear HKK inv
        intro hS inv
        (try simp only [Act.put]); (try simp only [List.setIfInBounds_toArray]); (try simp only [List.set_cons_succ]); (try simp only [List.set_cons_zero])
        refine sink_one (i := 19) (by kernel_rfl) rfl (by omega) inv (fun K hK => ?_)
        have HKK := Lib.hid hK
        clear hK
        refine RowT.step st_T rfl _ _ rfl W0.heap.size v4 (k + 1) (rowOf scells (L.take k) ++ rowOf scells [⟨at', fr, to, da⟩]) rfl H4.out.1 (m := n - k) (zs := (L.drop k)) (B := W0.heap.size) rfl (HD.out.below H4.out.2) (fun h => by cases h) (by omega) (H4.out.2.size) ?_
        intro v5 w5 hown5 hgr5 _
        obtain ⟨p5, c5, hv5⟩ := owns_slice hown5
        subst hv5
        have H5 := Lib.hid (rg_two (n := k + 1) H4.out.1 H4.out.2 hown5 (.inl hgr5))
        have cq5 := (HC.out w5 H5.out.2)
        have fq5 := HFZ.out w5 H5.out.2
        clear hown5 hgr5
        refine HKK.out _ _ ⟨⟨_, H5.out.2⟩, rfl⟩ ?_
        clear HKK inv
        intro hS inv
        (try simp only [Act.put]); (try simp only [List.setIfInBounds_toArray]); (try simp only [List.set_cons_succ]); (try simp only [List.set_cons_zero])
        refine sink_one (i := 20) (by kernel_rfl) rfl (by omega) inv (fun K hK => ?_)
        have HKK := Lib.hid hK
        clear hK
        go_simp
        refine HKK.out _ _ ⟨⟨_, H5.out.2⟩, rfl⟩ ?_
        clear HKK inv
        intro hS inv
        (try simp only [Act.put]); (try simp only [List.setIfInBounds_toArray]); (try simp only [List.set_cons_succ]); (try simp only [List.set_cons_zero])
        refine sink_one (i := 21) (by kernel_rfl) rfl (by omega) inv (fun K hK => ?_)
        have HKK := Lib.hid hK
        clear hK
        go_simp
        refine HKK.out _ _ ⟨⟨_, H5.out.2⟩, rfl⟩ ?_
        clear HKK inv
        intro hS inv
        (try simp only [Act.put]); (try simp only [List.setIfInBounds_toArray]); (try simp only [List.set_cons_succ]); (try simp only [List.set_cons_zero])
        refine sink_last (by kernel_rfl) rfl (by kernel_rfl) (fun K hK => ?_)
        have HKK := Lib.hid hK
        clear hK
        go_simp
        refine HKK.out _ _ ⟨rfl, rfl, rfl, ?_⟩
        clear HKK inv hS
        obtain ⟨h1, h2, h3⟩ := RNI.row (L' := insS L ⟨at', fr, to, da⟩) H.out HB0.out H5.out.2 (by have e := H5.out.1; rw [HINS.out]; simpa [rowOf_append, rowOf] using e) (by rw [insS_length]; omega)
        exact ⟨rfl, _, h1, h2, h3⟩
    · obtain rfl : k = n := by omega
      obtain rfl : k = c := by omega
      refine Mix.region_mix (n := 22) (m := 7) (fun V => ∃ q : Later W0, V = q.1) [0, 1, 2, 3, 4, 5, 6, 8, 9, 10, 13, 14, 15, 16, 17, 18] (by kernel_rfl) rfl rfl (by kernel_rfl) (by kernel_rfl) ⟨⟨W0.drew, HBd.out⟩, rfl⟩ ?_
      repeat (refine Mix.picks_step rfl ?_; go_big_quiet_step (fail))
      refine Mix.picks_nil ?_
      intro inv
      refine sink_two (i := 7) (j := 11) (by kernel_rfl) rfl rfl (by omega) (by omega) inv (fun K hK => ?_) (fun K hK => ?_)
      · have HKK := Lib.hid hK
        clear hK
        refine RowT.step st_T rfl _ _ rfl W0.heap.size (.slice none 0 0) 0 [] rfl (World.ownsRow_nil _ _ _ _) (m := k) (zs := (L.take k)) rfl (HT.out.below HBd.out) (fun h => by cases h) (by omega) (by simp) ?_
        intro v3 w3 hown3 hgr3 _
        have H3 := Lib.hid (rg_one (B := W0.heap.size) (w := W0) HBd.out hown3 hgr3)
        clear hown3 hgr3
        refine HKK.out _ _ ⟨⟨_, H3.out.2⟩, rfl⟩ ?_
        clear HKK inv
        intro hS inv
        (try simp only [Act.put]); (try simp only [List.setIfInBounds_toArray]); (try simp only [List.set_cons_succ]); (try simp only [List.set_cons_zero])
        refine sink_one (i := 11) (by kernel_rfl) rfl (by omega) inv (fun K hK => ?_)
        have HKK := Lib.hid hK
        clear hK
        go_simp
        refine HKK.out _ _ ⟨⟨_, (H3.out.2.alloc H3.out.2.size _)⟩, rfl⟩ ?_
        clear HKK inv
        intro hS inv
        (try simp only [Act.put]); (try simp only [List.setIfInBounds_toArray]); (try simp only [List.set_cons_succ]); (try simp only [List.set_cons_zero])
        refine sink_one (i := 12) (by kernel_rfl) rfl (by omega) inv (fun K hK => ?_)
        have HKK := Lib.hid hK
        clear hK
        refine RowT.step st_T rfl _ _ rfl W0.heap.size v3 k (rowOf scells (L.take k)) rfl (H3.out.1.alloc _) (m := 1) (zs := [⟨at', fr, to, da⟩]) rfl (rd_newS w3 ⟨at', fr, to, da⟩ _) (fun h => by cases h) (by omega) (by have := H3.out.2.size; first | omega | (simp; omega)) ?_
        intro v4 w4 hown4 hgr4 _
        have H4 := Lib.hid (rg_two H3.out.1 H3.out.2 hown4 (.inr ⟨_, hgr4⟩))
        clear hown4 hgr4
        refine HKK.out _ _ ⟨⟨_, H4.out.2⟩, rfl⟩ ?_
        clear HKK inv
        intro hS inv
        (try simp only [Act.put]); (try simp only [List.setIfInBounds_toArray]); (try simp only [List.set_cons_succ]); (try simp only [List.set_cons_zero])
        refine sink_one (i := 19) (by kernel_rfl) rfl (by omega) inv (fun K hK => ?_)
        have HKK := Lib.hid hK
        clear hK
        refine RowT.step st_T rfl _ _ rfl W0.heap.size v4 (k + 1) (rowOf scells (L.take k) ++ rowOf scells [⟨at', fr, to, da⟩]) rfl H4.out.1 (m := 0) (zs := []) (B := W0.heap.size) rfl (⟨rfl, fun h => absurd h (by omega)⟩) (fun h => by cases h) (by omega) (H4.out.2.size) ?_
        intro v5 w5 hown5 hgr5 _
        obtain ⟨p5, c5, hv5⟩ := owns_slice hown5
        subst hv5
        have H5 := Lib.hid (rg_two (n := k + 1) H4.out.1 H4.out.2 hown5 (.inl hgr5))
        have cq5 := (HC.out w5 H5.out.2)
        have fq5 := HFZ.out w5 H5.out.2
        clear hown5 hgr5
        refine HKK.out _ _ ⟨⟨_, H5.out.2⟩, rfl⟩ ?_
        clear HKK inv
        intro hS inv
        (try simp only [Act.put]); (try simp only [List.setIfInBounds_toArray]); (try simp only [List.set_cons_succ]); (try simp only [List.set_cons_zero])
        refine sink_one (i := 20) (by kernel_rfl) rfl (by omega) inv (fun K hK => ?_)
        have HKK := Lib.hid hK
        clear hK
        go_simp
        refine HKK.out _ _ ⟨⟨_, H5.out.2⟩, rfl⟩ ?_
        clear HKK inv
        intro hS inv
        (try simp only [Act.put]); (try simp only [List.setIfInBounds_toArray]); (try simp only [List.set_cons_succ]); (try simp only [List.set_cons_zero])
        refine sink_one (i := 21) (by kernel_rfl) rfl (by omega) inv (fun K hK => ?_)
        have HKK := Lib.hid hK
        clear hK
        go_simp
        refine HKK.out _ _ ⟨⟨_, H5.out.2⟩, rfl⟩ ?_
        clear HKK inv
        intro hS inv
        (try simp only [Act.put]); (try simp only [List.setIfInBounds_toArray]); (try simp only [List.set_cons_succ]); (try simp only [List.set_cons_zero])
        refine sink_last (by kernel_rfl) rfl (by kernel_rfl) (fun K hK => ?_)
        have HKK := Lib.hid hK
        clear hK
        go_simp
        refine HKK.out _ _ ⟨rfl, rfl, rfl, ?_⟩
        clear HKK inv hS
        obtain ⟨h1, h2, h3⟩ := RNI.row (L' := insS L ⟨at', fr, to, da⟩) H.out HB0.out H5.out.2 (by have e := H5.out.1; rw [HINS.out, List.drop_eq_nil_of_le (by omega)]; simpa [rowOf_append, rowOf] using e) (by rw [insS_length]; omega)
        exact ⟨rfl, _, h1, h2, h3⟩
      · have HKK := Lib.hid hK
        clear hK
        go_simp
        refine HKK.out _ _ ⟨⟨_, HBa.out _⟩, rfl⟩ ?_
        clear HKK inv
        intro hS inv
        (try simp only [Act.put]); (try simp only [List.setIfInBounds_toArray]); (try simp only [List.set_cons_succ]); (try simp only [List.set_cons_zero])
        refine sink_one (i := 7) (by kernel_rfl) rfl (by omega) inv (fun K hK => ?_)
        have HKK := Lib.hid hK
        clear hK
        refine RowT.step st_T rfl _ _ rfl W0.heap.size (.slice none 0 0) 0 [] rfl (World.ownsRow_nil _ _ _ _) (m := k) (zs := (L.take k)) rfl (HT.out.below (HBa.out _)) (fun h => by cases h) (by omega) (by simp) ?_
        intro v3 w3 hown3 hgr3 _
        have H3 := Lib.hid (rg_one (B := W0.heap.size) (w := W0) (HBa.out _) hown3 hgr3)
        have HX3 : Hid (RdG scells w3 w3.heap.size (some ⟨w.heap.size + 1, 0, none⟩) 1 [⟨at', fr, to, da⟩]) := Lib.hid (by have e := RdG.far (rd_newS W0.drew ⟨at', fr, to, da⟩ 65) hgr3; rw [show W0.drew.heap.size = w.heap.size + 1 from hs0] at e; exact e)
        clear hown3 hgr3
        refine HKK.out _ _ ⟨⟨_, H3.out.2⟩, rfl⟩ ?_
        clear HKK inv
        intro hS inv
        (try simp only [Act.put]); (try simp only [List.setIfInBounds_toArray]); (try simp only [List.set_cons_succ]); (try simp only [List.set_cons_zero])
        refine sink_one (i := 12) (by kernel_rfl) rfl (by omega) inv (fun K hK => ?_)
        have HKK := Lib.hid hK
        clear hK
        refine RowT.step st_T rfl _ _ rfl W0.heap.size v3 k (rowOf scells (L.take k)) rfl H3.out.1 (m := 1) (zs := [⟨at', fr, to, da⟩]) rfl HX3.out (fun h => by cases h) (by omega) (by have := H3.out.2.size; first | omega | (simp; omega)) ?_
        intro v4 w4 hown4 hgr4 _
        have H4 := Lib.hid (rg_two H3.out.1 H3.out.2 hown4 (.inl hgr4))
        clear hown4 hgr4
        refine HKK.out _ _ ⟨⟨_, H4.out.2⟩, rfl⟩ ?_
        clear HKK inv
        intro hS inv
        (try simp only [Act.put]); (try simp only [List.setIfInBounds_toArray]); (try simp only [List.set_cons_succ]); (try simp only [List.set_cons_zero])
        refine sink_one (i := 19) (by kernel_rfl) rfl (by omega) inv (fun K hK => ?_)
        have HKK := Lib.hid hK
        clear hK
        refine RowT.step st_T rfl _ _ rfl W0.heap.size v4 (k + 1) (rowOf scells (L.take k) ++ rowOf scells [⟨at', fr, to, da⟩]) rfl H4.out.1 (m := 0) (zs := []) (B := W0.heap.size) rfl (⟨rfl, fun h => absurd h (by omega)⟩) (fun h => by cases h) (by omega) (H4.out.2.size) ?_
        intro v5 w5 hown5 hgr5 _
        obtain ⟨p5, c5, hv5⟩ := owns_slice hown5
        subst hv5
        have H5 := Lib.hid (rg_two (n := k + 1) H4.out.1 H4.out.2 hown5 (.inl hgr5))
        have cq5 := (HC.out w5 H5.out.2)
        have fq5 := HFZ.out w5 H5.out.2
        clear hown5 hgr5
        refine HKK.out _ _ ⟨⟨_, H5.out.2⟩, rfl⟩ ?_
        clear HKK inv
        intro hS inv
        (try simp only [Act.put]); (try simp only [List.setIfInBounds_toArray]); (try simp only [List.set_cons_succ]); (try simp only [List.set_cons_zero])
        refine sink_one (i := 20) (by kernel_rfl) rfl (by omega) inv (fun K hK => ?_)
        have HKK := Lib.hid hK
        clear hK
        go_simp
        refine HKK.out _ _ ⟨⟨_, H5.out.2⟩, rfl⟩ ?_
        clear HKK inv
        intro hS inv
        (try simp only [Act.put]); (try simp only [List.setIfInBounds_toArray]); (try simp only [List.set_cons_succ]); (try simp only [List.set_cons_zero])
        refine sink_one (i := 21) (by kernel_rfl) rfl (by omega) inv (fun K hK => ?_)
        have HKK := Lib.hid hK
        clear hK
        go_simp
        refine HKK.out _ _ ⟨⟨_, H5.out.2⟩, rfl⟩ ?_
        clear HKK inv
        intro hS inv
        (try simp only [Act.put]); (try simp only [List.setIfInBounds_toArray]); (try simp only [List.set_cons_succ]); (try simp only [List.set_cons_zero])
        refine sink_last (by kernel_rfl) rfl (by kernel_rfl) (fun K hK => ?_)
        have HKK := Lib.hid hK
        clear hK
        go_simp
        refine HKK.out _ _ ⟨rfl, rfl, rfl, ?_⟩
        clear HKK inv hS
        obtain ⟨h1, h2, h3⟩ := RNI.row (L' := insS L ⟨at', fr, to, da⟩) H.out HB0.out H5.out.2 (by have e := H5.out.1; rw [HINS.out, List.drop_eq_nil_of_le (by omega)]; simpa [rowOf_append, rowOf] using e) (by rw [insS_length]; omega)
        exact ⟨rfl, _, h1, h2, h3⟩
  clear hK
  go_loopw [6] (fun iv wr => ∃ k : Nat, k ≤ n ∧ iv = .int .i64 k ∧ wr = W0 ∧ Hid (∀ i, i < k → (HL.el L i).at' ≤ at')) (fun iv _ => n - (intOf iv).toNat)
  case atStart => exact ⟨0, Nat.zero_le _, rfl, rfl, Lib.hid (fun i hi => by omega)⟩
  case round =>
    obtain ⟨k, hk, rfl, rfl, HLE⟩ := hrel
    by_cases hlt : k < n
    · have r0 := HCELL.out k hlt
      have HN1 : Hid ((HL.el L k).at' ≤ at' → ∀ i, i < k + 1 → (HL.el L i).at' ≤ at') := Lib.hid (fun h i hi => by
        by_cases e : i = k
        · subst e; exact h
        · exact HLE.out i (by omega))
      have HN2 : Hid (¬ (HL.el L k).at' ≤ at' → insS L ⟨at', fr, to, da⟩ = L.take k ++ [⟨at', fr, to, da⟩] ++ L.drop k) := Lib.hid (fun h => insS_at (by rw [HLn.out]; omega) HLE.out (fun _ => h))
      generalize (HL.el L k).at' = y at *
      have d0 : decide ((k : Int) < (n : Int)) = true := decide_eq_true (by omega)
      by_cases hy : y ≤ at'
      · have HN := Lib.hid (HN1.out hy)
        have d1 : decide (y ≤ at') = true := decide_eq_true hy
        clear hy HN1 HN2
        go_wp2
        go_roundw
        case rel => exact ⟨k + 1, by omega, by go_num, by first | rfl | trivial, HN⟩
        case measure => simp [intOf]; omega
      · have HN := Lib.hid (HN2.out hy)
        have d1 : decide (y ≤ at') = false := decide_eq_false hy
        clear HN1 HN2
        go_wp2
        exact TAIL.out k _ _ _ _ _ _ _ _ _ _ _ _ _ _ _ _ _ _ _ _ _ _ _ _ _ _ _ _ _ _ _ _ _ _ _ _ _ _ _ _ _ _ _ _ _ _ (by omega) HN.out
    · obtain rfl : k = n := by omega
      have HIN : Hid (insS L ⟨at', fr, to, da⟩ = L.take k ++ [⟨at', fr, to, da⟩] ++ L.drop k) := Lib.hid (insS_at (by rw [HLn.out]; omega) HLE.out (fun h => absurd h (by rw [HLn.out]; omega)))
      have d0i : decide ((k : Int) < (k : Int)) = false := decide_eq_false (by omega)
      clear HLE
      go_wp2
      exact TAIL.out k _ _ _ _ _ _ _ _ _ _ _ _ _ _ _ _ _ _ _ _ _ _ _ _ _ _ _ _ _ _ _ _ _ _ _ _ _ _ _ _ _ _ _ _ _ _ (by omega) HIN.out

set_option maxHeartbeats 4000000 in
set_option maxRecDepth 100000 in
theorem rn_put_nil (rb base : Nat) (v2 : Value) (C : List (Int × Int)) (at' fr to : Int) (da : ByteArray) (w : World) (h : RNI rb base (.slice none 0 0) v2 [] C w) :
    Calls Try.prog 39 #[.pointer (some ⟨rb, 0, none⟩), .int .i64 at', .agg #[.int .i64 fr, .int .i64 to, .string da]] w fun e w' => e = .returned (.tuple #[]) ∧ ∃ v', RNI rb base v' v2 (insS [] ⟨at', fr, to, da⟩) C w' ∧ Fr (fun k => k = rb) w w' ∧ ∀ g, v'.ownBlock = some g → w.heap.size ≤ g := by
  have H := Lib.hid h
  have hrlt := cell_lt h.c0
  obtain ⟨W0, hW0⟩ : ∃ W0, W0 = w.alloc (.cells #[.int .i64 fr, .int .i64 to, .string da] 60) := ⟨_, rfl⟩
  have HB0 : Hid (Below w.heap.size w W0) := Lib.hid (by rw [hW0]; exact (Below.refl _ w).alloc (Nat.le_refl _) _)
  have hs0 : W0.heap.size = w.heap.size + 1 := by rw [hW0]; simp
  have HX0 : Hid (W0.cell? ⟨w.heap.size, 0, none⟩ = some (.int .i64 fr) ∧ W0.cell? ⟨w.heap.size, 1, none⟩ = some (.int .i64 to) ∧ W0.cell? ⟨w.heap.size, 2, none⟩ = some (.string da)) := Lib.hid (by subst hW0; exact ⟨by go_simp, by go_simp, by go_simp⟩)
  have c0 : W0.cell? ⟨rb, 0, none⟩ = some (.slice none 0 0) := (HB0.out.cell (p := ⟨rb, 0, none⟩) hrlt).trans h.c0
  have HFZ0 : Hid (W0.frozen? ⟨rb, 0, none⟩ = false) := Lib.hid (((Fr.of_all (S := fun _ => False) HB0.out).frozen (p := ⟨rb, 0, none⟩) hrlt (fun h => h)).trans h.f0)
  have HINS : Hid (insS [] ⟨at', fr, to, da⟩ = [⟨at', fr, to, da⟩]) := Lib.hid rfl
  have HW0 := Lib.hid hW0
  clear h hW0
  go_enter Try.func39, Try.ntmps39
  go_wp2
  rw [← HW0.out]
  go_loopw [6] (fun iv wr => iv = .int .i64 0 ∧ wr = W0) (fun iv _ => 0)
  case atStart => exact ⟨rfl, rfl⟩
  case round =>
    obtain ⟨rfl, rfl⟩ := hrel
    go_wp2_with fail
    obtain ⟨W0, hWr⟩ : ∃ W0, W0 = wr := ⟨_, rfl⟩
    subst hWr
    have hrl0 : rb < W0.heap.size := by omega
    have hbl0 : w.heap.size < W0.heap.size := by omega
    have HBd : Hid (Below W0.heap.size W0 W0.drew) := Lib.hid (((Fr.refl (fun _ => False) W0).drew).below (Nat.le_refl _) (fun _ h => h.elim))
    have HBa : Hid (∀ o, Below W0.heap.size W0 (W0.drew.alloc o)) := Lib.hid (fun o => HBd.out.alloc (Nat.le_refl _) o)
    have HC : Hid (∀ V, Below W0.heap.size W0 V → V.cell? ⟨rb, 0, none⟩ = some (.slice none 0 0)) := Lib.hid (fun V hV => (hV.cell (p := ⟨rb, 0, none⟩) hrl0).trans c0)
    have HFZ : Hid (∀ V, Below W0.heap.size W0 V → V.frozen? ⟨rb, 0, none⟩ = false) := Lib.hid (fun V hV => ((Fr.of_all (S := fun _ => False) hV).frozen (p := ⟨rb, 0, none⟩) hrl0 (fun h => h)).trans HFZ0.out)
    have q0 : ∀ q : Later W0, q.1.cell? ⟨rb, 0, none⟩ = some (.slice none 0 0) := fun q => HC.out _ q.2
    have b0 : ∀ q : Later W0, q.1.cell? ⟨w.heap.size, 0, none⟩ = some (.int .i64 fr) := fun q => (q.2.cell (p := ⟨w.heap.size, 0, none⟩) hbl0).trans HX0.out.1
    have b1 : ∀ q : Later W0, q.1.cell? ⟨w.heap.size, 1, none⟩ = some (.int .i64 to) := fun q => (q.2.cell (p := ⟨w.heap.size, 1, none⟩) hbl0).trans HX0.out.2.1
    have b2 : ∀ q : Later W0, q.1.cell? ⟨w.heap.size, 2, none⟩ = some (.string da) := fun q => (q.2.cell (p := ⟨w.heap.size, 2, none⟩) hbl0).trans HX0.out.2.2
    have HRN : Hid (RdG scells W0 W0.heap.size none 0 []) := Lib.hid RdG.nil
    clear c0
    refine wp_ends rfl ?_
    go_wp2_with fail
    refine Mix.region_mix (n := 22) (m := 7) (fun V => ∃ q : Later W0, V = q.1) [0, 1, 2, 3, 4, 5, 6, 8, 9, 10, 13, 14, 15, 16, 17, 18] (by kernel_rfl) rfl rfl (by kernel_rfl) (by kernel_rfl) ⟨⟨W0.drew, HBd.out⟩, rfl⟩ ?_
    repeat (refine Mix.picks_step rfl ?_; go_big_quiet_step (fail))
    refine Mix.picks_nil ?_
    intro inv
    refine sink_two (i := 7) (j := 11) (by kernel_rfl) rfl rfl (by omega) (by omega) inv (fun K hK => ?_) (fun K hK => ?_)
    · have HKK := Lib.hid hK
      clear hK
      refine RowT.step st_T rfl _ _ rfl W0.heap.size (.slice none 0 0) 0 [] rfl (World.ownsRow_nil _ _ _ _) (m := 0) (zs := ([] : List St)) rfl (HRN.out.below HBd.out) (fun _ => rfl) (by omega) (by simp) ?_
      intro v3 w3 hown3 hgr3 _
      have H3 := Lib.hid (rg_one (B := W0.heap.size) (w := W0) HBd.out hown3 hgr3)
      clear hown3 hgr3
      refine HKK.out _ _ ⟨⟨_, H3.out.2⟩, rfl⟩ ?_
      clear HKK inv
      intro hS inv
      (try simp only [Act.put]); (try simp only [List.setIfInBounds_toArray]); (try simp only [List.set_cons_succ]); (try simp only [List.set_cons_zero])
      refine sink_one (i := 11) (by kernel_rfl) rfl (by omega) inv (fun K hK => ?_)
      have HKK := Lib.hid hK
      clear hK
      go_simp
      refine HKK.out _ _ ⟨⟨_, (H3.out.2.alloc H3.out.2.size _)⟩, rfl⟩ ?_
      clear HKK inv
      intro hS inv
      (try simp only [Act.put]); (try simp only [List.setIfInBounds_toArray]); (try simp only [List.set_cons_succ]); (try simp only [List.set_cons_zero])
      refine sink_one (i := 12) (by kernel_rfl) rfl (by omega) inv (fun K hK => ?_)
      have HKK := Lib.hid hK
      clear hK
      refine RowT.step st_T rfl _ _ rfl W0.heap.size v3 0 (rowOf scells ([] : List St)) rfl (H3.out.1.alloc _) (m := 1) (zs := [⟨at', fr, to, da⟩]) rfl (rd_newS w3 ⟨at', fr, to, da⟩ _) (fun h => by cases h) (by omega) (by have := H3.out.2.size; first | omega | (simp; omega)) ?_
      intro v4 w4 hown4 hgr4 _
      have H4 := Lib.hid (rg_two H3.out.1 H3.out.2 hown4 (.inr ⟨_, hgr4⟩))
      clear hown4 hgr4
      refine HKK.out _ _ ⟨⟨_, H4.out.2⟩, rfl⟩ ?_
      clear HKK inv
      intro hS inv
      (try simp only [Act.put]); (try simp only [List.setIfInBounds_toArray]); (try simp only [List.set_cons_succ]); (try simp only [List.set_cons_zero])
      refine sink_one (i := 19) (by kernel_rfl) rfl (by omega) inv (fun K hK => ?_)
      have HKK := Lib.hid hK
      clear hK
      refine RowT.step st_T rfl _ _ rfl W0.heap.size v4 (0 + 1) (rowOf scells ([] : List St) ++ rowOf scells [⟨at', fr, to, da⟩]) rfl H4.out.1 (m := 0) (zs := ([] : List St)) (B := W0.heap.size) rfl (HRN.out.below H4.out.2) (fun _ => rfl) (by omega) (H4.out.2.size) ?_
      intro v5 w5 hown5 hgr5 _
      obtain ⟨p5, c5, hv5⟩ := owns_slice hown5
      subst hv5
      have H5 := Lib.hid (rg_two (n := 0 + 1) H4.out.1 H4.out.2 hown5 (.inl hgr5))
      have cq5 := (HC.out w5 H5.out.2)
      have fq5 := HFZ.out w5 H5.out.2
      clear hown5 hgr5
      refine HKK.out _ _ ⟨⟨_, H5.out.2⟩, rfl⟩ ?_
      clear HKK inv
      intro hS inv
      (try simp only [Act.put]); (try simp only [List.setIfInBounds_toArray]); (try simp only [List.set_cons_succ]); (try simp only [List.set_cons_zero])
      refine sink_one (i := 20) (by kernel_rfl) rfl (by omega) inv (fun K hK => ?_)
      have HKK := Lib.hid hK
      clear hK
      go_simp
      refine HKK.out _ _ ⟨⟨_, H5.out.2⟩, rfl⟩ ?_
      clear HKK inv
      intro hS inv
      (try simp only [Act.put]); (try simp only [List.setIfInBounds_toArray]); (try simp only [List.set_cons_succ]); (try simp only [List.set_cons_zero])
      refine sink_one (i := 21) (by kernel_rfl) rfl (by omega) inv (fun K hK => ?_)
      have HKK := Lib.hid hK
      clear hK
      go_simp
      refine HKK.out _ _ ⟨⟨_, H5.out.2⟩, rfl⟩ ?_
      clear HKK inv
      intro hS inv
      (try simp only [Act.put]); (try simp only [List.setIfInBounds_toArray]); (try simp only [List.set_cons_succ]); (try simp only [List.set_cons_zero])
      refine sink_last (by kernel_rfl) rfl (by kernel_rfl) (fun K hK => ?_)
      have HKK := Lib.hid hK
      clear hK
      go_simp
      refine HKK.out _ _ ⟨rfl, rfl, rfl, ?_⟩
      clear HKK inv hS
      obtain ⟨h1, h2, h3⟩ := RNI.row (L' := insS [] ⟨at', fr, to, da⟩) H.out HB0.out H5.out.2 (by have e := H5.out.1; rw [HINS.out]; simpa [rowOf_append, rowOf] using e) (by rw [insS_length]; rfl)
      exact ⟨rfl, _, h1, h2, h3⟩
    · have HKK := Lib.hid hK
      clear hK
      go_simp
      refine HKK.out _ _ ⟨⟨_, HBa.out _⟩, rfl⟩ ?_
      clear HKK inv
      intro hS inv
      (try simp only [Act.put]); (try simp only [List.setIfInBounds_toArray]); (try simp only [List.set_cons_succ]); (try simp only [List.set_cons_zero])
      refine sink_one (i := 7) (by kernel_rfl) rfl (by omega) inv (fun K hK => ?_)
      have HKK := Lib.hid hK
      clear hK
      refine RowT.step st_T rfl _ _ rfl W0.heap.size (.slice none 0 0) 0 [] rfl (World.ownsRow_nil _ _ _ _) (m := 0) (zs := ([] : List St)) rfl (HRN.out.below (HBa.out _)) (fun _ => rfl) (by omega) (by simp) ?_
      intro v3 w3 hown3 hgr3 _
      have H3 := Lib.hid (rg_one (B := W0.heap.size) (w := W0) (HBa.out _) hown3 hgr3)
      have HX3 : Hid (RdG scells w3 w3.heap.size (some ⟨w.heap.size + 1, 0, none⟩) 1 [⟨at', fr, to, da⟩]) := Lib.hid (by have e := RdG.far (rd_newS W0.drew ⟨at', fr, to, da⟩ 65) hgr3; rw [show W0.drew.heap.size = w.heap.size + 1 from hs0] at e; exact e)
      clear hown3 hgr3
      refine HKK.out _ _ ⟨⟨_, H3.out.2⟩, rfl⟩ ?_
      clear HKK inv
      intro hS inv
      (try simp only [Act.put]); (try simp only [List.setIfInBounds_toArray]); (try simp only [List.set_cons_succ]); (try simp only [List.set_cons_zero])
      refine sink_one (i := 12) (by kernel_rfl) rfl (by omega) inv (fun K hK => ?_)
      have HKK := Lib.hid hK
      clear hK
      refine RowT.step st_T rfl _ _ rfl W0.heap.size v3 0 (rowOf scells ([] : List St)) rfl H3.out.1 (m := 1) (zs := [⟨at', fr, to, da⟩]) rfl HX3.out (fun h => by cases h) (by omega) (by have := H3.out.2.size; first | omega | (simp; omega)) ?_
      intro v4 w4 hown4 hgr4 _
      have H4 := Lib.hid (rg_two H3.out.1 H3.out.2 hown4 (.inl hgr4))
      clear hown4 hgr4
      refine HKK.out _ _ ⟨⟨_, H4.out.2⟩, rfl⟩ ?_
      clear HKK inv
      intro hS inv
      (try simp only [Act.put]); (try simp only [List.setIfInBounds_toArray]); (try simp only [List.set_cons_succ]); (try simp only [List.set_cons_zero])
      refine sink_one (i := 19) (by kernel_rfl) rfl (by omega) inv (fun K hK => ?_)
      have HKK := Lib.hid hK
      clear hK
      refine RowT.step st_T rfl _ _ rfl W0.heap.size v4 (0 + 1) (rowOf scells ([] : List St) ++ rowOf scells [⟨at', fr, to, da⟩]) rfl H4.out.1 (m := 0) (zs := ([] : List St)) (B := W0.heap.size) rfl (HRN.out.below H4.out.2) (fun _ => rfl) (by omega) (H4.out.2.size) ?_
      intro v5 w5 hown5 hgr5 _
      obtain ⟨p5, c5, hv5⟩ := owns_slice hown5
      subst hv5
      have H5 := Lib.hid (rg_two (n := 0 + 1) H4.out.1 H4.out.2 hown5 (.inl hgr5))
      have cq5 := (HC.out w5 H5.out.2)
      have fq5 := HFZ.out w5 H5.out.2
      clear hown5 hgr5
      refine HKK.out _ _ ⟨⟨_, H5.out.2⟩, rfl⟩ ?_
      clear HKK inv
      intro hS inv
      (try simp only [Act.put]); (try simp only [List.setIfInBounds_toArray]); (try simp only [List.set_cons_succ]); (try simp only [List.set_cons_zero])
      refine sink_one (i := 20) (by kernel_rfl) rfl (by omega) inv (fun K hK => ?_)
      have HKK := Lib.hid hK
      clear hK
      go_simp
      refine HKK.out _ _ ⟨⟨_, H5.out.2⟩, rfl⟩ ?_
      clear HKK inv
      intro hS inv
      (try simp only [Act.put]); (try simp only [List.setIfInBounds_toArray]); (try simp only [List.set_cons_succ]); (try simp only [List.set_cons_zero])
      refine sink_one (i := 21) (by kernel_rfl) rfl (by omega) inv (fun K hK => ?_)
      have HKK := Lib.hid hK
      clear hK
      go_simp
      refine HKK.out _ _ ⟨⟨_, H5.out.2⟩, rfl⟩ ?_
      clear HKK inv
      intro hS inv
      (try simp only [Act.put]); (try simp only [List.setIfInBounds_toArray]); (try simp only [List.set_cons_succ]); (try simp only [List.set_cons_zero])
      refine sink_last (by kernel_rfl) rfl (by kernel_rfl) (fun K hK => ?_)
      have HKK := Lib.hid hK
      clear hK
      go_simp
      refine HKK.out _ _ ⟨rfl, rfl, rfl, ?_⟩
      clear HKK inv hS
      obtain ⟨h1, h2, h3⟩ := RNI.row (L' := insS [] ⟨at', fr, to, da⟩) H.out HB0.out H5.out.2 (by have e := H5.out.1; rw [HINS.out]; simpa [rowOf_append, rowOf] using e) (by rw [insS_length]; rfl)
      exact ⟨rfl, _, h1, h2, h3⟩

/-- put: a packet behind all that are not later. -/
theorem rn_put {rb base : Nat} {v1 v2 : Value} {L : List St} {C : List (Int × Int)} {w : World} (h : RNI rb base v1 v2 L C w) (hn : L.length ≤ 10000) (at' fr to : Int) (da : ByteArray) :
    Calls Try.prog 39 #[.pointer (some ⟨rb, 0, none⟩), .int .i64 at', .agg #[.int .i64 fr, .int .i64 to, .string da]] w fun e w' => e = .returned (.tuple #[]) ∧ ∃ v', RNI rb base v' v2 (insS L ⟨at', fr, to, da⟩) C w' ∧ Fr (fun k => k = rb) w w' ∧ ∀ g, v'.ownBlock = some g → w.heap.size ≤ g := by
  rcases owns_two h.o1 with ⟨e1, e2⟩ | ⟨g, c, e1, _⟩
  · have : L = [] := List.eq_nil_of_length_eq_zero e2
    subst this e1
    exact rn_put_nil rb base v2 C at' fr to da w h
  · subst e1
    exact rn_put_some rb base g L.length c v2 L C at' fr to da w h rfl hn
end Go.Proofs.Ythdpajgnigilhaa

/- arboretumref22.Net: ends, cut, Cut. -/
namespace Go.Proofs.Ythdpajgnigilhaa
open Go.RowKit

theorem RdG.el {α : Type} [Inhabited α] {f : α → List Value} {size : Nat} (hf : ∀ x, (f x).length = size) {w : World} {B n : Nat} {p : Option Addr} {zs : List α} (h : RdG f w B p n zs) (k : Nat) (hk : k < n) :
    ∃ b o, p = some ⟨b, o, none⟩ ∧ b < B ∧ ∀ t u, (f (HL.el zs k))[t]? = some u → w.cell? ⟨b, o + k * size + t, none⟩ = some u := by
  obtain ⟨b, o, e, hb, hc⟩ := h.2 (by omega)
  refine ⟨b, o, e, hb, fun t u hu => ?_⟩
  have ht : t < size := by have := (List.getElem?_eq_some_iff.1 hu).1; rw [hf] at this; exact this
  have r := rowOf_at f hf zs k t (by rw [h.1]; exact hk) ht
  have e1 : zs.getD k default = HL.el zs k := rfl
  rw [e1, hu] at r
  rw [Nat.add_assoc]
  exact hc _ u r

set_option maxRecDepth 100000 in
theorem run_eqA (x y x' y' : Int) (w : World) : (binOp .eql 82 (.agg #[.int .i64 x, .int .i64 y]) (.agg #[.int .i64 x', .int .i64 y'])).run Try.prog w = .ok (.bool (x == x' && y == y')) w := by
  have u3 := Try.underlying3
  have a3 := Try.isAgg3
  have e1 : List.range' 0 2 = [0, 1] := rfl
  rw [run_eql_struct]
  unfold Op.equalIn
  go_simp
  by_cases h1 : x = x'
  · by_cases h2 : y = y'
    · simp [h1, h2]
    · simp [h1, h2]
  · simp [h1]
set_option maxRecDepth 100000 in
theorem run_neA (x y x' y' : Int) (w : World) : (binOp .neq 82 (.agg #[.int .i64 x, .int .i64 y]) (.agg #[.int .i64 x', .int .i64 y'])).run Try.prog w = .ok (.bool (!(x == x' && y == y'))) w := by
  have u3 := Try.underlying3
  have a3 := Try.isAgg3
  have e1 : List.range' 0 2 = [0, 1] := rfl
  rw [run_neq_struct]
  unfold Op.equalIn
  go_simp
  by_cases h1 : x = x'
  · by_cases h2 : y = y'
    · simp [h1, h2]
    · simp [h1, h2]
  · simp [h1]

theorem rn_ends (a b : Int) (w : World) :
    Calls Try.prog 41 #[.int .i64 a, .int .i64 b] w fun e w' => e = .returned (.agg #[.int .i64 (lo a b), .int .i64 (hi a b)]) ∧ Below w.heap.size w w' := by
  unfold lo hi
  by_cases h : b < a
  · rw [Int.min_eq_right (by omega), Int.max_eq_left (by omega)]
    go_enter Try.func41, Try.ntmps41
    go_wp2
    exact bodyPost_ret (v := .agg #[.int .i64 b, .int .i64 a]) (by simp [results, Try.results41, go_sem]) rfl ⟨rfl, by repeat (first | exact Below.refl _ _ | refine Below.drew ?_ | refine Below.alloc ?_ (by simp) _ | refine Below.setCell ?_ (by simp) _)⟩
  · rw [Int.min_eq_left (by omega), Int.max_eq_right (by omega)]
    go_enter Try.func41, Try.ntmps41
    go_wp2
    exact bodyPost_ret (v := .agg #[.int .i64 a, .int .i64 b]) (by simp [results, Try.results41, go_sem]) rfl ⟨rfl, by repeat (first | exact Below.refl _ _ | refine Below.drew ?_ | refine Below.alloc ?_ (by simp) _ | refine Below.setCell ?_ (by simp) _)⟩

theorem isCut_from {C : List (Int × Int)} {a b : Int} {i : Nat} (hi' : i < C.length) (h : ((HL.el C i).1 == lo a b && (HL.el C i).2 == hi a b) = true) : isCut C a b = true := by
  unfold isCut
  rw [List.any_eq_true]
  refine ⟨HL.el C i, ?_, h⟩
  rw [show HL.el C i = C[i] by simp [HL.el, List.getD, hi']]
  exact List.getElem_mem hi'
theorem isCut_none {C : List (Int × Int)} {a b : Int} (h : ∀ j, j < C.length → ((HL.el C j).1 == lo a b && (HL.el C j).2 == hi a b) = false) : isCut C a b = false := by
  unfold isCut
  rw [List.any_eq_false]
  intro c hc
  obtain ⟨j, hj, rfl⟩ := List.getElem_of_mem hc
  have := h j hj
  rw [show HL.el C j = C[j] by simp [HL.el, List.getD, hj]] at this
  rw [this]; simp

set_option maxHeartbeats 2000000 in
set_option maxRecDepth 100000 in
theorem rn_cut {rb base : Nat} {v1 v2 : Value} {L : List St} {C : List (Int × Int)} {w : World} (h : RNI rb base v1 v2 L C w) (hC : C.length ≤ 10000) (a b : Int) :
    Calls Try.prog 38 #[.pointer (some ⟨rb, 0, none⟩), .int .i64 a, .int .i64 b] w fun e w' => e = .returned (.bool (isCut C a b)) ∧ Below w.heap.size w w' := by
  obtain ⟨p2, c2, hv2⟩ := owns_slice h.o2
  have HR : Hid (RdG ccells w w.heap.size p2 C.length C) := Lib.hid (RdG.of_own (by rw [← hv2]; exact h.o2) rfl)
  have hc1 := h.c1
  rw [hv2] at hc1
  have hrl := cell_lt hc1
  clear h hv2
  have hqa := run_eqA
  go_enter Try.func38, Try.ntmps38
  go_wp2
  go_loopw [7] (fun iv wr => ∃ i : Nat, i ≤ C.length ∧ iv = .int .i64 i ∧ Hid (∀ j, j < i → ((HL.el C j).1 == lo a b && (HL.el C j).2 == hi a b) = false) ∧ Hid (Below w.heap.size w wr)) (fun iv _ => C.length - (intOf iv).toNat)
  case atStart => exact ⟨0, Nat.zero_le _, rfl, Lib.hid (fun j hj => by omega), Lib.hid (Below.refl _ _)⟩
  case round =>
    obtain ⟨i, hi', rfl, HN, HB⟩ := hrel
    have hsz := HB.out.size
    have y1 : ∀ q : Later wr, q.1.cell? ⟨rb, 1, none⟩ = some (.slice p2 C.length c2) := fun q => (q.2.cell (p := ⟨rb, 1, none⟩) (by show rb < _; omega)).trans ((HB.out.cell (p := ⟨rb, 1, none⟩) hrl).trans hc1)
    have y0 : wr.cell? ⟨rb, 1, none⟩ = some (.slice p2 C.length c2) := (HB.out.cell (p := ⟨rb, 1, none⟩) hrl).trans hc1
    by_cases hlt : i < C.length
    · have hltI : (i : Int) < (C.length : Int) := by omega
      obtain ⟨g, o, rfl, hg, hc⟩ := HR.out.el ccells_length i hlt
      have x0 := hc 0 _ rfl
      have x1 := hc 1 _ rfl
      have HT : Hid (((HL.el C i).1 == lo a b && (HL.el C i).2 == hi a b) = true → isCut C a b = true) := Lib.hid (isCut_from hlt)
      have HF : Hid (((HL.el C i).1 == lo a b && (HL.el C i).2 == hi a b) = false → ∀ j, j < i + 1 → ((HL.el C j).1 == lo a b && (HL.el C j).2 == hi a b) = false) := Lib.hid (fun h j hj => by
        by_cases e : j = i
        · subst e; exact h
        · exact HN.out j (by omega))
      simp only [Nat.add_zero] at x0
      generalize (HL.el C i).1 = z1 at *
      generalize (HL.el C i).2 = z2 at *
      have q0 : ∀ q : Later wr, q.1.cell? ⟨g, o + i * 2, none⟩ = some (.int .i64 z1) := fun q => (q.2.cell (p := ⟨g, o + i * 2, none⟩) (by show g < _; omega)).trans ((HB.out.cell (p := ⟨g, o + i * 2, none⟩) hg).trans x0)
      have q1 : ∀ q : Later wr, q.1.cell? ⟨g, o + i * 2 + 1, none⟩ = some (.int .i64 z2) := fun q => (q.2.cell (p := ⟨g, o + i * 2 + 1, none⟩) (by show g < _; omega)).trans ((HB.out.cell (p := ⟨g, o + i * 2 + 1, none⟩) hg).trans x1)
      have q2 : ∀ q : Later wr, q.1.cell? ⟨g, o + (i * 2 + 1), none⟩ = some (.int .i64 z2) := fun q => by rw [← Nat.add_assoc]; exact q1 q
      have HEN : Hid (∀ W, Calls Try.prog 41 #[.int .i64 a, .int .i64 b] W fun e w' => e = .returned (.agg #[.int .i64 (lo a b), .int .i64 (hi a b)]) ∧ Below W.heap.size W w') := Lib.hid (fun W => rn_ends a b W)
      have FIN : Hid (∀ W, Below wr.heap.size wr W → Below w.heap.size w W) := Lib.hid (fun W hW => HB.out.trans (hW.mono HB.out.size))
      clear hc x0 x1 HN
      have d0 : decide ((i : Int) < (C.length : Int)) = true := decide_eq_true hltI
      have hb : i < 1000000000 ∨ True := .inr trivial
      clear hb
      go_wp2_with fail
      refine wp_region_later (by kernel_rfl) (by kernel_rfl) ?_
      repeat (go_big_quiet_step (first | (go_at_call 41; exact Calls.later_of (HEN.out _))))
      refine wpQuiet_nil ?_
      intro _ hw'
      obtain ⟨⟨wq, hq⟩, hw''⟩ := hw'
      subst hw''
      have HQ2 := Lib.hid (FIN.out _ hq)
      clear hq y1 y0 q0 q1 q2 HB FIN
      generalize hr : (z1 == lo a b && z2 == hi a b) = r at *
      have HR2 := Lib.hid hr
      clear hr
      cases r with
      | true =>
        have HE := Lib.hid (HT.out rfl)
        clear HT HF HR2
        go_wp2
        go_ret
        exact ⟨by rw [HE.out]; rfl, HQ2.out⟩
      | false =>
        have HE := Lib.hid (HF.out rfl)
        clear HT HF HR2
        go_wp2
        go_roundw
        case rel => exact ⟨i + 1, by omega, by go_num, HE, HQ2⟩
        case measure => simp [intOf]; omega
    · obtain rfl : i = C.length := by omega
      have HE := Lib.hid (isCut_none HN.out)
      clear HN y1
      go_wp2
      go_ret
      exact ⟨by rw [HE.out]; rfl, HB.out⟩
end Go.Proofs.Ythdpajgnigilhaa

/- arboretumref22.Net: Pull. -/
namespace Go.Proofs.Ythdpajgnigilhaa
open Go.RowKit

set_option maxHeartbeats 1000000 in
set_option maxRecDepth 100000 in
theorem rn_pull_no {rb base : Nat} {v1 v2 : Value} {L : List St} {C : List (Int × Int)} {w : World} (h : RNI rb base v1 v2 L C w) (k : Int) (hk : k < 0 ∨ (L.length : Int) ≤ k) :
    Calls Try.prog 26 #[.pointer (some ⟨rb, 0, none⟩), .int .i64 k] w fun e w' => e = .returned (.tuple #[pkv 0 0 ByteArray.empty, .bool false]) ∧ Below w.heap.size w w' := by
  obtain ⟨p1, c1, hv1⟩ := owns_slice h.o1
  have hc0 := h.c0
  rw [hv1] at hc0
  have hrl := cell_lt hc0
  clear h hv1
  generalize L.length = n at *
  rcases Int.lt_or_le k 0 with h0 | h0
  · have d0 : decide (k < 0) = true := decide_eq_true h0
    clear hk
    go_enter Try.func26, Try.ntmps26
    go_wp2
    exact bodyPost_ret (v := .tuple #[pkv 0 0 ByteArray.empty, .bool false]) (by simp [results, Try.results26, go_sem, pkv]; rfl) rfl ⟨rfl, by repeat (first | exact Below.refl _ _ | refine Below.drew ?_ | refine Below.alloc ?_ (by simp) _ | refine Below.setCell ?_ (by simp) _)⟩
  · have d0 : decide (k < 0) = false := decide_eq_false (by omega)
    have h1 : (n : Int) ≤ k := by omega
    have d1 : decide ((n : Int) ≤ k) = true := decide_eq_true h1
    clear hk
    go_enter Try.func26, Try.ntmps26
    go_wp2
    exact bodyPost_ret (v := .tuple #[pkv 0 0 ByteArray.empty, .bool false]) (by simp [results, Try.results26, go_sem, pkv]; rfl) rfl ⟨rfl, by repeat (first | exact Below.refl _ _ | refine Below.drew ?_ | refine Below.alloc ?_ (by simp) _ | refine Below.setCell ?_ (by simp) _)⟩

set_option maxHeartbeats 4000000 in
set_option maxRecDepth 100000 in
theorem rn_pull {rb base : Nat} {v1 v2 : Value} {L : List St} {C : List (Int × Int)} {w : World} (h : RNI rb base v1 v2 L C w) (k : Nat) (hk : k < L.length) (hn : L.length ≤ 10000) :
    Calls Try.prog 26 #[.pointer (some ⟨rb, 0, none⟩), .int .i64 k] w fun e w' => e = .returned (.tuple #[pkv (HL.el L k).fr (HL.el L k).to (HL.el L k).da, .bool true]) ∧ ∃ v', RNI rb base v' v2 (L.take k ++ L.drop (k + 1)) C w' ∧ Fr (fun k => k = rb) w w' ∧ ∀ g, v'.ownBlock = some g → w.heap.size ≤ g := by
  obtain ⟨g, c, hv1, hgl⟩ : ∃ g c, v1 = .slice (some ⟨g, 0, none⟩) L.length c ∧ g < w.heap.size := by
    rcases owns_two h.o1 with ⟨e1, e2⟩ | ⟨g, c, e1, e2⟩
    · omega
    · exact ⟨g, c, e1, e2⟩
  subst hv1
  have H := Lib.hid h
  obtain ⟨hcap, hcm⟩ := owns_caps h.o1
  have hrl := cell_lt h.c0
  have hc0 := h.c0
  have hcl := h.cells k hk
  obtain ⟨_, z1, z2, z3⟩ := hcl
  obtain ⟨n, hLn⟩ : ∃ n, L.length = n := ⟨_, rfl⟩
  have HRD := Lib.hid (h.rd rfl)
  rw [hLn] at hc0 hk hn hcap H HRD
  have HLn := Lib.hid hLn
  clear h
  generalize HL.el L k = x at *
  obtain ⟨xa, xf, xt, xd⟩ := x
  simp only at z1 z2 z3
  have y1 : w.cell? ⟨g, k * 4 + 1 + 1, none⟩ = some (.int .i64 xt) := z2
  have y2 : w.cell? ⟨g, k * 4 + 1 + 2, none⟩ = some (.string xd) := z3
  clear z2 z3
  have d0 : decide ((k : Int) < 0) = false := decide_eq_false (by omega)
  have d1 : decide ((n : Int) ≤ (k : Int)) = false := decide_eq_false (by omega)
  have hkI : (k : Int) < (n : Int) := by omega
  go_enter Try.func26, Try.ntmps26
  go_wp2_with fail
  obtain ⟨W1, hW1⟩ : ∃ W1, W1 = ((((w.alloc (.cells #[.int .i64 0, .int .i64 0, .string ⟨#[]⟩] 60)).alloc (.cells #[.int .i64 xf, .int .i64 xt, .string xd] 60)))) := ⟨_, rfl⟩
  have HB1 : Hid (Below w.heap.size w W1) := Lib.hid (by rw [hW1]; exact ((Below.refl _ w).alloc (Nat.le_refl _) _).alloc (by simp) _)
  have hs1 : W1.heap.size = w.heap.size + 1 + 1 := by rw [hW1]; simp
  have UC : Hid (W1.cell? ⟨w.heap.size, 0, none⟩ = some (.int .i64 0) ∧ W1.cell? ⟨w.heap.size, 1, none⟩ = some (.int .i64 0) ∧ W1.cell? ⟨w.heap.size, 2, none⟩ = some (.string ⟨#[]⟩) ∧ ∀ k, W1.frozen? ⟨w.heap.size, k, none⟩ = false) := Lib.hid (by subst hW1; exact ⟨by go_simp, by go_simp, by go_simp, fun k => by go_simp⟩)
  have TC : Hid (W1.cell? ⟨w.heap.size + 1, 0, none⟩ = some (.int .i64 xf) ∧ W1.cell? ⟨w.heap.size + 1, 1, none⟩ = some (.int .i64 xt) ∧ W1.cell? ⟨w.heap.size + 1, 2, none⟩ = some (.string xd)) := Lib.hid (by subst hW1; exact ⟨by go_simp, by go_simp, by go_simp⟩)
  rw [← hW1]
  have HW1 := Lib.hid hW1
  clear hW1
  have hl1 : w.heap.size + 1 < W1.heap.size := by omega
  have hl0 : w.heap.size < W1.heap.size := by omega
  have hr0 : ¬ w.heap.size = rb := by show ¬ w.heap.size = rb; have : rb < w.heap.size := hrl; omega
  have hr1 : ¬ w.heap.size + 1 = rb := by have : rb < w.heap.size := hrl; omega
  have hrl1 : rb < W1.heap.size := by have : rb < w.heap.size := hrl; omega
  have HT := Lib.hid (((HRD.out.below HB1.out).more (by omega : w.heap.size ≤ W1.heap.size)).takes scells_length (Nat.le_of_lt hk))
  have HD := Lib.hid (((HRD.out.below HB1.out).more (by omega : w.heap.size ≤ W1.heap.size)).drops (k := k + 1) scells_length (by omega))
  rw [Nat.zero_add] at HD
  have HBd : Hid (Below W1.heap.size W1 W1.drew) := Lib.hid (((Fr.refl (fun _ => False) W1).drew).below (Nat.le_refl _) (fun _ h => h.elim))
  have HC : Hid (∀ V, Below W1.heap.size W1 V → V.cell? ⟨rb, 0, none⟩ = some (.slice (some ⟨g, 0, none⟩) n c)) := Lib.hid (fun V hV => (hV.cell (p := ⟨rb, 0, none⟩) hrl1).trans ((HB1.out.cell (p := ⟨rb, 0, none⟩) hrl).trans hc0))
  have HFZ : Hid (∀ V, Below W1.heap.size W1 V → V.frozen? ⟨rb, 0, none⟩ = false) := Lib.hid (fun V hV => ((Fr.of_all (S := fun _ => False) (HB1.out.trans (hV.mono HB1.out.size))).frozen (p := ⟨rb, 0, none⟩) hrl (fun h => h)).trans H.out.f0)
  have q0 : ∀ q : Later W1, q.1.cell? ⟨rb, 0, none⟩ = some (.slice (some ⟨g, 0, none⟩) n c) := fun q => HC.out _ q.2
  have hLn := HLn.out
  clear z1 y1 y2 hc0
  rcases Nat.lt_or_ge (k + 1) c with hck | hck
  · have hkc : k + 1 ≤ c := by omega
    have hkcI : (k : Int) + 1 ≤ c := by omega
    have hck2 : ¬ c = k + 1 := by omega
    refine Mix.region_mix (n := 18) (m := 5) (fun V => ∃ q : Later W1, V = q.1) [0, 1, 2, 3, 4, 5, 6, 8, 9, 10, 11, 12, 13, 14] (by kernel_rfl) rfl rfl (by kernel_rfl) (by kernel_rfl) ⟨⟨W1.drew, HBd.out⟩, rfl⟩ ?_
    repeat (refine Mix.picks_step rfl ?_; go_big_quiet_step (fail))
    refine Mix.picks_nil ?_
    intro inv
    refine sink_one (i := 7) (by kernel_rfl) rfl (by omega) inv (fun K hK => ?_)
    have HKK := Lib.hid hK
    clear hK
    refine RowT.step st_T rfl _ _ rfl W1.heap.size (.slice none 0 0) 0 [] rfl (World.ownsRow_nil _ _ _ _) (m := k) (zs := (L.take k)) rfl (HT.out.below HBd.out) (fun h => by cases h) (by omega) (by simp) ?_
    intro v3 w3 hown3 hgr3 _
    have H3 := Lib.hid (rg_one (B := W1.heap.size) (w := W1) HBd.out hown3 hgr3)
    clear hown3 hgr3
    refine HKK.out _ _ ⟨⟨_, H3.out.2⟩, rfl⟩ ?_
    clear HKK inv
    intro hS inv
    (try simp only [Act.put]); (try simp only [List.setIfInBounds_toArray]); (try simp only [List.set_cons_succ]); (try simp only [List.set_cons_zero])
    refine sink_one (i := 15) (by kernel_rfl) rfl (by omega) inv (fun K hK => ?_)
    have HKK := Lib.hid hK
    clear hK
    refine RowT.step st_T rfl _ _ rfl W1.heap.size v3 k (rowOf scells (L.take k)) rfl H3.out.1 (m := n - (k + 1)) (zs := (L.drop (k + 1))) (B := W1.heap.size) rfl (HD.out.below H3.out.2) (fun h => by cases h) (by omega) (H3.out.2.size) ?_
    intro v5 w5 hown5 hgr5 _
    obtain ⟨p5, c5, hv5⟩ := owns_slice hown5
    subst hv5
    have H5 := Lib.hid (rg_two (n := k) H3.out.1 H3.out.2 hown5 (.inl hgr5))
    have cq5 := (HC.out w5 H5.out.2)
    have fq5 := HFZ.out w5 H5.out.2
    clear hown5 hgr5
    refine HKK.out _ _ ⟨⟨_, H5.out.2⟩, rfl⟩ ?_
    clear HKK inv
    intro hS inv
    (try simp only [Act.put]); (try simp only [List.setIfInBounds_toArray]); (try simp only [List.set_cons_succ]); (try simp only [List.set_cons_zero])
    refine sink_one (i := 16) (by kernel_rfl) rfl (by omega) inv (fun K hK => ?_)
    have HKK := Lib.hid hK
    clear hK
    go_simp
    refine HKK.out _ _ ⟨⟨_, H5.out.2⟩, rfl⟩ ?_
    clear HKK inv
    intro hS inv
    (try simp only [Act.put]); (try simp only [List.setIfInBounds_toArray]); (try simp only [List.set_cons_succ]); (try simp only [List.set_cons_zero])
    refine sink_one (i := 17) (by kernel_rfl) rfl (by omega) inv (fun K hK => ?_)
    have HKK := Lib.hid hK
    clear hK
    go_simp
    refine HKK.out _ _ ⟨⟨_, H5.out.2⟩, rfl⟩ ?_
    clear HKK inv
    intro hS inv
    (try simp only [Act.put]); (try simp only [List.setIfInBounds_toArray]); (try simp only [List.set_cons_succ]); (try simp only [List.set_cons_zero])
    refine sink_last (by kernel_rfl) rfl (by kernel_rfl) (fun K hK => ?_)
    have HKK := Lib.hid hK
    clear hK
    go_simp
    refine HKK.out _ _ ⟨rfl, ?_⟩
    clear HKK inv hS
    have hend := RNI.row (L' := L.take k ++ L.drop (k + 1)) H.out HB1.out H5.out.2 (by have e := H5.out.1; simpa [rowOf_append, rowOf] using e) (by rw [List.length_append, List.length_take, List.length_drop]; omega)
    have HFX : Hid (Fr (fun k => k = rb) W1 (w5.setCell ⟨rb, 0, none⟩ (.slice p5 (k + (n - (k + 1))) c5))) := Lib.hid (((Fr.of_all (S := fun k => k = rb) H5.out.2)).setCell (p := ⟨rb, 0, none⟩) (fun _ => rfl) _)
    generalize w5.setCell ⟨rb, 0, none⟩ (.slice p5 (k + (n - (k + 1))) c5) = X at *
    have HEND := Lib.hid hend
    clear hend cq5 fq5 q0
    have t0 := (HFX.out.cell (p := ⟨w.heap.size + 1, 0, none⟩) hl1 hr1).trans TC.out.1
    have t1 := (HFX.out.cell (p := ⟨w.heap.size + 1, 1, none⟩) hl1 hr1).trans TC.out.2.1
    have t2 := (HFX.out.cell (p := ⟨w.heap.size + 1, 2, none⟩) hl1 hr1).trans TC.out.2.2
    have u0 := (HFX.out.cell (p := ⟨w.heap.size, 0, none⟩) hl0 hr0).trans UC.out.1
    have u1 := (HFX.out.cell (p := ⟨w.heap.size, 1, none⟩) hl0 hr0).trans UC.out.2.1
    have u2 := (HFX.out.cell (p := ⟨w.heap.size, 2, none⟩) hl0 hr0).trans UC.out.2.2.1
    have f0 := (HFX.out.frozen (p := ⟨w.heap.size, 0, none⟩) hl0 hr0).trans (UC.out.2.2.2 _)
    have f1 := (HFX.out.frozen (p := ⟨w.heap.size, 1, none⟩) hl0 hr0).trans (UC.out.2.2.2 _)
    have f2 := (HFX.out.frozen (p := ⟨w.heap.size, 2, none⟩) hl0 hr0).trans (UC.out.2.2.2 _)
    have hzX : w.heap.size < X.heap.size := by have := HFX.out.size; omega
    have hx3 := cells3n (v0 := .int .i64 xf) (v1 := .int .i64 xt) (v2 := .string xd) u0 u1 u2
    obtain ⟨Y, hY⟩ : ∃ Y, ((X.setCell ⟨w.heap.size, 0, none⟩ (.int .i64 xf)).setCell ⟨w.heap.size, 1, none⟩ (.int .i64 xt)).setCell ⟨w.heap.size, 2, none⟩ (.string xd) = Y := ⟨_, rfl⟩
    rw [hY] at hx3
    obtain ⟨g0, g1, g2⟩ := hx3
    have HYF : Hid (Fr (fun k => k = w.heap.size) X Y) := Lib.hid (by rw [← hY]; exact (((Fr.refl (fun k => k = w.heap.size) X).setCell (p := ⟨w.heap.size, 0, none⟩) (fun _ => rfl) _).setCell (p := ⟨w.heap.size, 1, none⟩) (fun _ => rfl) _).setCell (p := ⟨w.heap.size, 2, none⟩) (fun _ => rfl) _)
    go_wp2
    refine bodyPost_ret (v := .tuple #[pkv xf xt xd, .bool true]) (by simp [results, Try.results26, go_sem, pkv, g0, g1, g2]) rfl ⟨rfl, _, HEND.out.1.keep HYF.out (fun k hk e => ?_), Fr.trans HEND.out.2.1 HYF.out (fun i hi hlt => by omega), HEND.out.2.2⟩
    subst e
    rcases hk with hk | hk | hk
    · omega
    · have := (H5.out.1.lt _ hk).1; omega
    · have := (H.out.o2.lt _ hk).2; omega
  · obtain rfl : n = k + 1 := by omega
    obtain rfl : c = k + 1 := by omega
    refine Mix.region_mix (n := 18) (m := 5) (fun V => ∃ q : Later W1, V = q.1) [0, 1, 2, 3, 4, 5, 6, 8, 9, 10, 11, 12, 13, 14] (by kernel_rfl) rfl rfl (by kernel_rfl) (by kernel_rfl) ⟨⟨W1.drew, HBd.out⟩, rfl⟩ ?_
    repeat (refine Mix.picks_step rfl ?_; go_big_quiet_step (fail))
    refine Mix.picks_nil ?_
    intro inv
    refine sink_one (i := 7) (by kernel_rfl) rfl (by omega) inv (fun K hK => ?_)
    have HKK := Lib.hid hK
    clear hK
    refine RowT.step st_T rfl _ _ rfl W1.heap.size (.slice none 0 0) 0 [] rfl (World.ownsRow_nil _ _ _ _) (m := k) (zs := (L.take k)) rfl (HT.out.below HBd.out) (fun h => by cases h) (by omega) (by simp) ?_
    intro v3 w3 hown3 hgr3 _
    have H3 := Lib.hid (rg_one (B := W1.heap.size) (w := W1) HBd.out hown3 hgr3)
    clear hown3 hgr3
    refine HKK.out _ _ ⟨⟨_, H3.out.2⟩, rfl⟩ ?_
    clear HKK inv
    intro hS inv
    (try simp only [Act.put]); (try simp only [List.setIfInBounds_toArray]); (try simp only [List.set_cons_succ]); (try simp only [List.set_cons_zero])
    refine sink_one (i := 15) (by kernel_rfl) rfl (by omega) inv (fun K hK => ?_)
    have HKK := Lib.hid hK
    clear hK
    refine RowT.step st_T rfl _ _ rfl W1.heap.size v3 k (rowOf scells (L.take k)) rfl H3.out.1 (m := 0) (zs := []) (B := W1.heap.size) rfl (⟨rfl, fun h => absurd h (by omega)⟩) (fun h => by cases h) (by omega) (H3.out.2.size) ?_
    intro v5 w5 hown5 hgr5 _
    obtain ⟨p5, c5, hv5⟩ := owns_slice hown5
    subst hv5
    have H5 := Lib.hid (rg_two (n := k) H3.out.1 H3.out.2 hown5 (.inl hgr5))
    have cq5 := (HC.out w5 H5.out.2)
    have fq5 := HFZ.out w5 H5.out.2
    clear hown5 hgr5
    refine HKK.out _ _ ⟨⟨_, H5.out.2⟩, rfl⟩ ?_
    clear HKK inv
    intro hS inv
    (try simp only [Act.put]); (try simp only [List.setIfInBounds_toArray]); (try simp only [List.set_cons_succ]); (try simp only [List.set_cons_zero])
    refine sink_one (i := 16) (by kernel_rfl) rfl (by omega) inv (fun K hK => ?_)
    have HKK := Lib.hid hK
    clear hK
    go_simp
    refine HKK.out _ _ ⟨⟨_, H5.out.2⟩, rfl⟩ ?_
    clear HKK inv
    intro hS inv
    (try simp only [Act.put]); (try simp only [List.setIfInBounds_toArray]); (try simp only [List.set_cons_succ]); (try simp only [List.set_cons_zero])
    refine sink_one (i := 17) (by kernel_rfl) rfl (by omega) inv (fun K hK => ?_)
    have HKK := Lib.hid hK
    clear hK
    go_simp
    refine HKK.out _ _ ⟨⟨_, H5.out.2⟩, rfl⟩ ?_
    clear HKK inv
    intro hS inv
    (try simp only [Act.put]); (try simp only [List.setIfInBounds_toArray]); (try simp only [List.set_cons_succ]); (try simp only [List.set_cons_zero])
    refine sink_last (by kernel_rfl) rfl (by kernel_rfl) (fun K hK => ?_)
    have HKK := Lib.hid hK
    clear hK
    go_simp
    refine HKK.out _ _ ⟨rfl, ?_⟩
    clear HKK inv hS
    have hend := RNI.row (L' := L.take k ++ L.drop (k + 1)) H.out HB1.out H5.out.2 (by have e := H5.out.1; simpa [rowOf_append, rowOf, List.drop_eq_nil_of_le, hLn] using e) (by rw [List.length_append, List.length_take, List.length_drop]; omega)
    have HFX : Hid (Fr (fun k => k = rb) W1 (w5.setCell ⟨rb, 0, none⟩ (.slice p5 (k + (0)) c5))) := Lib.hid (((Fr.of_all (S := fun k => k = rb) H5.out.2)).setCell (p := ⟨rb, 0, none⟩) (fun _ => rfl) _)
    generalize w5.setCell ⟨rb, 0, none⟩ (.slice p5 (k + (0)) c5) = X at *
    have HEND := Lib.hid hend
    clear hend cq5 fq5 q0
    have t0 := (HFX.out.cell (p := ⟨w.heap.size + 1, 0, none⟩) hl1 hr1).trans TC.out.1
    have t1 := (HFX.out.cell (p := ⟨w.heap.size + 1, 1, none⟩) hl1 hr1).trans TC.out.2.1
    have t2 := (HFX.out.cell (p := ⟨w.heap.size + 1, 2, none⟩) hl1 hr1).trans TC.out.2.2
    have u0 := (HFX.out.cell (p := ⟨w.heap.size, 0, none⟩) hl0 hr0).trans UC.out.1
    have u1 := (HFX.out.cell (p := ⟨w.heap.size, 1, none⟩) hl0 hr0).trans UC.out.2.1
    have u2 := (HFX.out.cell (p := ⟨w.heap.size, 2, none⟩) hl0 hr0).trans UC.out.2.2.1
    have f0 := (HFX.out.frozen (p := ⟨w.heap.size, 0, none⟩) hl0 hr0).trans (UC.out.2.2.2 _)
    have f1 := (HFX.out.frozen (p := ⟨w.heap.size, 1, none⟩) hl0 hr0).trans (UC.out.2.2.2 _)
    have f2 := (HFX.out.frozen (p := ⟨w.heap.size, 2, none⟩) hl0 hr0).trans (UC.out.2.2.2 _)
    have hzX : w.heap.size < X.heap.size := by have := HFX.out.size; omega
    have hx3 := cells3n (v0 := .int .i64 xf) (v1 := .int .i64 xt) (v2 := .string xd) u0 u1 u2
    obtain ⟨Y, hY⟩ : ∃ Y, ((X.setCell ⟨w.heap.size, 0, none⟩ (.int .i64 xf)).setCell ⟨w.heap.size, 1, none⟩ (.int .i64 xt)).setCell ⟨w.heap.size, 2, none⟩ (.string xd) = Y := ⟨_, rfl⟩
    rw [hY] at hx3
    obtain ⟨g0, g1, g2⟩ := hx3
    have HYF : Hid (Fr (fun k => k = w.heap.size) X Y) := Lib.hid (by rw [← hY]; exact (((Fr.refl (fun k => k = w.heap.size) X).setCell (p := ⟨w.heap.size, 0, none⟩) (fun _ => rfl) _).setCell (p := ⟨w.heap.size, 1, none⟩) (fun _ => rfl) _).setCell (p := ⟨w.heap.size, 2, none⟩) (fun _ => rfl) _)
    go_wp2
    refine bodyPost_ret (v := .tuple #[pkv xf xt xd, .bool true]) (by simp [results, Try.results26, go_sem, pkv, g0, g1, g2]) rfl ⟨rfl, _, HEND.out.1.keep HYF.out (fun k hk e => ?_), Fr.trans HEND.out.2.1 HYF.out (fun i hi hlt => by omega), HEND.out.2.2⟩
    subst e
    rcases hk with hk | hk | hk
    · omega
    · have := (H5.out.1.lt _ hk).1; omega
    · have := (H.out.o2.lt _ hk).2; omega
end Go.Proofs.Ythdpajgnigilhaa

/- arboretumref22.Net: Send, Due, Double, Delay, Cut. (Printed by gen-netsend.py.) -/
namespace Go.Proofs.Ythdpajgnigilhaa
open Go.RowKit

/-- What the reference's Send leaves, and how many it counts. -/
def sendR (cut : Int → Int → Bool) (at' : Int) (L : List St) (ps : List Pk) : List St × Nat :=
  ps.foldl (fun a x => if cut x.fr x.to || decide (600 ≤ a.1.length) then a else (insS a.1 ⟨at', x.fr, x.to, x.da⟩, a.2 + 1)) (L, 0)
theorem sendR_snoc (cut : Int → Int → Bool) (at' : Int) (L : List St) (ps : List Pk) (x : Pk) :
    sendR cut at' L (ps ++ [x]) = if cut x.fr x.to || decide (600 ≤ (sendR cut at' L ps).1.length) then sendR cut at' L ps else (insS (sendR cut at' L ps).1 ⟨at', x.fr, x.to, x.da⟩, (sendR cut at' L ps).2 + 1) := by
  simp [sendR, List.foldl_append]
theorem sendR_len {cut : Int → Int → Bool} {at' : Int} {L : List St} {ps : List Pk} (hL : L.length ≤ 600) : ∀ k : Nat, k ≤ ps.length → (sendR cut at' L (ps.take k)).1.length ≤ 600 ∧ (sendR cut at' L (ps.take k)).2 ≤ k
  | 0, _ => by simp [sendR, hL]
  | k + 1, hk => by
    have ih := sendR_len (cut := cut) (at' := at') hL (ps := ps) k (by omega)
    rw [take_snoc (by omega), sendR_snoc]
    split
    · exact ⟨ih.1, by omega⟩
    · rename_i hc
      simp only [Bool.or_eq_true, decide_eq_true_eq, not_or] at hc
      rw [insS_length]
      exact ⟨by omega, by omega⟩
/-- Both sides say the same. -/
theorem send_same {cut : Int → Int → Bool} {at' : Int} {S : List Nd} {c : Int} {ps : List Pk} : ∀ k : Nat, k ≤ ps.length →
    (sendN cut at' S c (ps.take k)).1.map stOf = (sendR cut at' (S.map stOf) (ps.take k)).1 ∧ (sendN cut at' S c (ps.take k)).2 = c + (sendR cut at' (S.map stOf) (ps.take k)).2
  | 0, _ => by simp [sendN, sendR]
  | k + 1, hk => by
    obtain ⟨ih1, ih2⟩ := send_same (cut := cut) (at' := at') (S := S) (c := c) (ps := ps) k (by omega)
    have hl := congrArg List.length ih1
    rw [List.length_map] at hl
    rw [take_snoc (by omega), sendN_snoc, sendR_snoc, hl]
    split
    · exact ⟨ih1, ih2⟩
    · refine ⟨?_, ?_⟩
      · rw [map_insN, ih1]; rfl
      · show (sendN cut at' S c (ps.take k)).2 + 1 = c + (((sendR cut at' (S.map stOf) (ps.take k)).2 + 1 : Nat) : Int)
        rw [ih2]; omega

/-- What stands behind some calls: the net with another row. -/
structure RStep (rb base : Nat) (v1 v2 : Value) (L' : List St) (C : List (Int × Int)) (w wr : World) (v1' : Value) : Prop where
  net : RNI rb base v1' v2 L' C wr
  fr : Fr (fun k => k = rb) w wr
  low : ∀ g, v1'.ownBlock = some g → v1.ownBlock = some g ∨ w.heap.size ≤ g
theorem RStep.refl {rb base : Nat} {v1 v2 : Value} {L : List St} {C : List (Int × Int)} {w : World} (h : RNI rb base v1 v2 L C w) : RStep rb base v1 v2 L C w w v1 := ⟨h, Fr.refl _ _, fun _ h => .inl h⟩
theorem RStep.below {rb base : Nat} {v1 v2 : Value} {L' : List St} {C : List (Int × Int)} {w wr wr' : World} {v1' : Value} (h : RStep rb base v1 v2 L' C w wr v1') (hb : Below wr.heap.size wr wr') : RStep rb base v1 v2 L' C w wr' v1' :=
  ⟨h.net.below hb, Fr.trans h.fr (Fr.of_all (S := fun _ => False) hb) (fun _ h _ => h.elim), h.low⟩
theorem RStep.more {rb base : Nat} {v1 v2 : Value} {L' L2 : List St} {C : List (Int × Int)} {w wr wr' : World} {v1' v3 : Value} (h : RStep rb base v1 v2 L' C w wr v1') (hn : RNI rb base v3 v2 L2 C wr') (hf : Fr (fun k => k = rb) wr wr') (hl : ∀ g, v3.ownBlock = some g → wr.heap.size ≤ g) : RStep rb base v1 v2 L2 C w wr' v3 :=
  ⟨hn, Fr.trans h.fr hf (fun _ hi _ => hi), fun g hg => .inr (Nat.le_trans h.fr.size (hl g hg))⟩

set_option maxHeartbeats 4000000 in
set_option maxRecDepth 100000 in
theorem rn_send {rb base : Nat} {v1 v2 : Value} {L : List St} {C : List (Int × Int)} {w : World} (h : RNI rb base v1 v2 L C w) (at' : Int) (ps : List Pk) (p : Option Addr) (n c : Nat) (hR : RdG pcells w w.heap.size p n ps) (hps : ∀ b o, p = some ⟨b, o, none⟩ → b ≠ rb) (hL : L.length ≤ 600) (hC : C.length ≤ 10000) (hn : n ≤ 1000) :
    Calls Try.prog 20 #[.pointer (some ⟨rb, 0, none⟩), .int .i64 at', .slice p n c] w fun e w' => e = .returned (.int .i64 ((sendR (isCut C) at' L ps).2 : Nat)) ∧ ∃ v', RStep rb base v1 v2 (sendR (isCut C) at' L ps).1 C w w' v' := by
  have H := Lib.hid h
  have HR := Lib.hid hR
  have HPS := Lib.hid hps
  have hpl := hR.1
  have hrl := cell_lt h.c0
  clear h hR hps
  go_enter Try.func20, Try.ntmps20
  go_wp2
  go_loopw [7, 8] (fun cv iv wr => ∃ i : Nat, i ≤ n ∧ iv = .int .i64 i ∧ cv = .int .i64 ((sendR (isCut C) at' L (ps.take i)).2 : Nat) ∧ Hid (∃ v', RStep rb base v1 v2 (sendR (isCut C) at' L (ps.take i)).1 C w wr v')) (fun _ iv _ => n - (intOf iv).toNat)
  case atStart => exact ⟨0, Nat.zero_le _, rfl, rfl, Lib.hid ⟨v1, by simpa [sendR] using RStep.refl H.out⟩⟩
  case round =>
    obtain ⟨i, hi', rfl, rfl, hrel⟩ := hrel
    by_cases hlt : i < n
    · obtain ⟨v', hS⟩ := hrel.out
      have HS := Lib.hid hS
      obtain ⟨g, o, rfl, hg, hc⟩ := HR.out.el pcells_length i hlt
      have hgr : ¬ g = rb := HPS.out g o rfl
      have hsz := hS.fr.size
      have x0 := (hS.fr.cell (p := ⟨g, o + i * 3, none⟩) hg hgr).trans (hc 0 _ rfl)
      have x1 := (hS.fr.cell (p := ⟨g, o + i * 3 + 1, none⟩) hg hgr).trans (hc 1 _ rfl)
      have x2 := (hS.fr.cell (p := ⟨g, o + i * 3 + 2, none⟩) hg hgr).trans (hc 2 _ rfl)
      obtain ⟨p1, c1, hv1⟩ := owns_slice hS.net.o1
      have hc0 := hS.net.c0
      rw [hv1] at hc0
      have hll := (sendR_len (cut := isCut C) (at' := at') hL (ps := ps) i (by omega))
      have HSN : Hid (∀ x, HL.el ps i = x → sendR (isCut C) at' L (ps.take (i + 1)) = if isCut C x.fr x.to || decide (600 ≤ (sendR (isCut C) at' L (ps.take i)).1.length) then sendR (isCut C) at' L (ps.take i) else (insS (sendR (isCut C) at' L (ps.take i)).1 ⟨at', x.fr, x.to, x.da⟩, (sendR (isCut C) at' L (ps.take i)).2 + 1)) := Lib.hid (fun x e => by rw [take_snoc (by omega), sendR_snoc, e])
      clear hc hS hrel hv1
      generalize hx : HL.el ps i = x at *
      have HSX := Lib.hid (HSN.out x rfl)
      obtain ⟨xf, xt, xd⟩ := x
      simp only at x0 x1 x2 HSX
      clear hx HSN
      generalize hs1 : sendR (isCut C) at' L (ps.take (i + 1)) = s1 at *
      have HS1 := Lib.hid hs1
      clear hs1
      generalize sendR (isCut C) at' L (ps.take i) = s0 at *
      obtain ⟨L1, n1⟩ := s1
      obtain ⟨L0, n0⟩ := s0
      simp only at HSX hll hc0 HS
      obtain ⟨hl0, hn0⟩ := hll
      have hlw : g < wr.heap.size := by omega
      have hrw : rb < wr.heap.size := by have : rb < w.heap.size := hrl; omega
      have y0 : ∀ q : Later wr, q.1.cell? ⟨rb, 0, none⟩ = some (.slice p1 L0.length c1) := fun q => (q.2.cell (p := ⟨rb, 0, none⟩) hrw).trans hc0
      have q0 : ∀ q : Later wr, q.1.cell? ⟨g, o + i * 3, none⟩ = some (.int .i64 xf) := fun q => (q.2.cell (p := ⟨g, o + i * 3, none⟩) hlw).trans x0
      have q1 : ∀ q : Later wr, q.1.cell? ⟨g, o + i * 3 + 1, none⟩ = some (.int .i64 xt) := fun q => (q.2.cell (p := ⟨g, o + i * 3 + 1, none⟩) hlw).trans x1
      have q2 : ∀ q : Later wr, q.1.cell? ⟨g, o + i * 3 + 2, none⟩ = some (.string xd) := fun q => (q.2.cell (p := ⟨g, o + i * 3 + 2, none⟩) hlw).trans x2
      have HCUT : Hid (∀ q : Later wr, Calls Try.prog 38 #[.pointer (some ⟨rb, 0, none⟩), .int .i64 xf, .int .i64 xt] q.1 fun e w' => e = .returned (.bool (isCut C xf xt)) ∧ Below q.1.heap.size q.1 w') := Lib.hid (fun q => rn_cut (HS.out.below q.2).net hC xf xt)
      have HPUT : Hid (∀ W, Below wr.heap.size wr W → Calls Try.prog 39 #[.pointer (some ⟨rb, 0, none⟩), .int .i64 at', .agg #[.int .i64 xf, .int .i64 xt, .string xd]] W fun e w' => e = .returned (.tuple #[]) ∧ ∃ v3, RStep rb base v1 v2 (insS L0 ⟨at', xf, xt, xd⟩) C w w' v3) := Lib.hid (fun W hW => (rn_put (HS.out.below hW).net (by omega) at' xf xt xd).mono (by
        rintro e w' ⟨rfl, v3, h1, h2, h3⟩
        exact ⟨rfl, v3, (HS.out.below hW).more h1 h2 h3⟩))
      have HB0 : Hid (∀ W, Below wr.heap.size wr W → RStep rb base v1 v2 L0 C w W v') := Lib.hid (fun W hW => HS.out.below hW)
      have d0 : decide ((i : Int) < (n : Int)) = true := decide_eq_true (by omega)
      have hltI : (i : Int) < (n : Int) := by omega
      clear x0 x1 x2 hc0 HS
      by_cases hfull : 600 ≤ L0.length
      · have d1 : decide ((L0.length : Int) < 600) = false := decide_eq_false (by omega)
        have d2 : ¬ (L0.length : Int) < 600 := by omega
        have HE : Hid (L1 = L0 ∧ n1 = n0) := Lib.hid (by have e := HSX.out; rw [decide_eq_true hfull, Bool.or_true, if_pos rfl] at e; injection e with e1 e2; exact ⟨e1, e2⟩)
        clear HSX hfull HPUT
        go_wp2_with fail
        refine wp_region_later (by kernel_rfl) (by kernel_rfl) ?_
        repeat (go_big_quiet_step (first | (go_at_call 38; exact Calls.later_of (HCUT.out _))))
        refine wpQuiet_nil ?_
        intro _ hw'
        obtain ⟨⟨wq, hq⟩, hw''⟩ := hw'
        subst hw''
        have HQ2 := Lib.hid (HB0.out _ hq)
        clear hq y0 q0 q1 q2 HB0
        go_wp2
        go_roundw
        case rel => exact ⟨i + 1, by omega, by go_num, by rw [HS1.out, HE.out.2], Lib.hid ⟨v', by rw [HS1.out, HE.out.1]; exact HQ2.out⟩⟩
        case measure => simp [intOf]; omega
      · have d1 : decide ((L0.length : Int) < 600) = true := decide_eq_true (by omega)
        have d2 : (L0.length : Int) < 600 := by omega
        have HE : Hid ((L1, n1) = if isCut C xf xt = true then (L0, n0) else (insS L0 ⟨at', xf, xt, xd⟩, n0 + 1)) := Lib.hid (by have e := HSX.out; rw [decide_eq_false hfull, Bool.or_false] at e; exact e)
        clear HSX hfull
        generalize isCut C xf xt = r at HE HCUT
        go_wp2_with fail
        refine wp_region_later (by kernel_rfl) (by kernel_rfl) ?_
        repeat (go_big_quiet_step (first | (go_at_call 38; exact Calls.later_of (HCUT.out _))))
        refine wpQuiet_nil ?_
        intro wz hw'
        obtain ⟨⟨wq, hq⟩, hw''⟩ := hw'
        have hwz : wz = wq := hw''
        clear hw''
        subst hwz
        have HQ2 := Lib.hid (HB0.out _ hq)
        cases r with
        | true =>
          have HEE : Hid (L1 = L0 ∧ n1 = n0) := Lib.hid (by have e := HE.out; rw [if_pos rfl] at e; injection e with e1 e2; exact ⟨e1, e2⟩)
          clear hq y0 q0 q1 q2 HB0 HE HPUT HCUT
          go_wp2
          go_roundw
          case rel => exact ⟨i + 1, by omega, by go_num, by rw [HS1.out, HEE.out.2], Lib.hid ⟨v', by rw [HS1.out, HEE.out.1]; exact HQ2.out⟩⟩
          case measure => simp [intOf]; omega
        | false =>
          have HEE : Hid (L1 = insS L0 ⟨at', xf, xt, xd⟩ ∧ n1 = n0 + 1) := Lib.hid (by have e := HE.out; rw [if_neg (by simp)] at e; injection e with e1 e2; exact ⟨e1, e2⟩)
          have z0 : wz.cell? ⟨g, o + i * 3, none⟩ = some (.int .i64 xf) := q0 ⟨_, hq⟩
          have z1 : wz.cell? ⟨g, o + i * 3 + 1, none⟩ = some (.int .i64 xt) := q1 ⟨_, hq⟩
          have z2 : wz.cell? ⟨g, o + i * 3 + 2, none⟩ = some (.string xd) := q2 ⟨_, hq⟩
          have HP := Lib.hid (HPUT.out _ hq)
          have hn0b : n0 ≤ 1000 := by omega
          clear hq y0 q0 q1 q2 HB0 HE HCUT HPUT HQ2
          go_wp2_with fail
          refine HP.out.mono ?_
          rintro e w4 ⟨rfl, v3, hS3⟩
          have HS3 := Lib.hid hS3
          clear hS3 z0 z1 z2
          go_wp2
          go_roundw
          case rel => exact ⟨i + 1, by omega, by go_num, by rw [HS1.out, HEE.out.2]; go_num, Lib.hid ⟨v3, by rw [HS1.out, HEE.out.1]; exact HS3.out⟩⟩
          case measure => simp [intOf]; omega
    · obtain rfl : i = n := by omega
      have HE : Hid (ps.take i = ps) := Lib.hid (List.take_of_length_le (by omega))
      rw [HE.out] at hrel ⊢
      go_wp2
      go_ret
      exact ⟨rfl, hrel.out⟩

set_option maxHeartbeats 1000000 in
set_option maxRecDepth 100000 in
theorem rn_due_none {rb base : Nat} {v1 v2 : Value} {C : List (Int × Int)} {w : World} (h : RNI rb base v1 v2 [] C w) (now : Int) :
    Calls Try.prog 23 #[.pointer (some ⟨rb, 0, none⟩), .int .i64 now] w fun e w' => e = .returned (.tuple #[pkv 0 0 ByteArray.empty, .bool false]) ∧ Below w.heap.size w w' := by
  obtain ⟨p1, c1, hv1⟩ := owns_slice h.o1
  have hc0 := h.c0
  rw [hv1] at hc0
  have hrl := cell_lt hc0
  clear h hv1
  change w.cell? ⟨rb, 0, none⟩ = some (.slice p1 0 c1) at hc0
  go_enter Try.func23, Try.ntmps23
  go_wp2
  exact bodyPost_ret (v := .tuple #[pkv 0 0 ByteArray.empty, .bool false]) (by simp [results, Try.results23, go_sem, pkv]; rfl) rfl ⟨rfl, by repeat (first | exact Below.refl _ _ | refine Below.drew ?_ | refine Below.alloc ?_ (by simp) _ | refine Below.setCell ?_ (by simp) _)⟩

set_option maxHeartbeats 1000000 in
set_option maxRecDepth 100000 in
theorem rn_due_early {rb base : Nat} {v1 v2 : Value} {L : List St} {C : List (Int × Int)} {w : World} (h : RNI rb base v1 v2 L C w) (hn : 0 < L.length) (now : Int) (hnow : now < (HL.el L 0).at') :
    Calls Try.prog 23 #[.pointer (some ⟨rb, 0, none⟩), .int .i64 now] w fun e w' => e = .returned (.tuple #[pkv 0 0 ByteArray.empty, .bool false]) ∧ Below w.heap.size w w' := by
  obtain ⟨g, c, hv1, hgl⟩ : ∃ g c, v1 = .slice (some ⟨g, 0, none⟩) L.length c ∧ g < w.heap.size := by
    rcases owns_two h.o1 with ⟨e1, e2⟩ | ⟨g, c, e1, e2⟩
    · omega
    · exact ⟨g, c, e1, e2⟩
  subst hv1
  have hc0 := h.c0
  have hrl := cell_lt hc0
  have z0 := (h.cells 0 hn).1
  rw [Nat.zero_mul] at z0
  have hne : ((L.length : Int) == 0) = false := by rw [beq_eq_false_iff_ne]; omega
  have hn0 : (0 : Int) < (L.length : Int) := by omega
  clear h
  generalize (HL.el L 0).at' = a at *
  generalize L.length = n at *
  go_enter Try.func23, Try.ntmps23
  go_wp2
  exact bodyPost_ret (v := .tuple #[pkv 0 0 ByteArray.empty, .bool false]) (by simp [results, Try.results23, go_sem, pkv]; rfl) rfl ⟨rfl, by repeat (first | exact Below.refl _ _ | refine Below.drew ?_ | refine Below.alloc ?_ (by simp) _ | refine Below.setCell ?_ (by simp) _)⟩

set_option maxHeartbeats 1000000 in
set_option maxRecDepth 100000 in
theorem rn_due {rb base : Nat} {v1 v2 : Value} {L : List St} {C : List (Int × Int)} {w : World} (h : RNI rb base v1 v2 L C w) (hn : 0 < L.length) (hL : L.length ≤ 10000) (now : Int) (hnow : (HL.el L 0).at' ≤ now) :
    Calls Try.prog 23 #[.pointer (some ⟨rb, 0, none⟩), .int .i64 now] w fun e w' => e = .returned (.tuple #[pkv (HL.el L 0).fr (HL.el L 0).to (HL.el L 0).da, .bool true]) ∧ ∃ v', RNI rb base v' v2 (L.take 0 ++ L.drop (0 + 1)) C w' ∧ Fr (fun k => k = rb) w w' ∧ ∀ g, v'.ownBlock = some g → w.heap.size ≤ g := by
  have HP := Lib.hid (fun W (hW : Below w.heap.size w W) => rn_pull (h.below hW) 0 hn hL)
  have HNE := Lib.hid h
  obtain ⟨g, c, hv1, hgl⟩ : ∃ g c, v1 = .slice (some ⟨g, 0, none⟩) L.length c ∧ g < w.heap.size := by
    rcases owns_two h.o1 with ⟨e1, e2⟩ | ⟨g, c, e1, e2⟩
    · omega
    · exact ⟨g, c, e1, e2⟩
  subst hv1
  have hc0 := h.c0
  have hrl : rb < w.heap.size := cell_lt hc0
  have z0 := (h.cells 0 hn).1
  rw [Nat.zero_mul] at z0
  have hne : ((L.length : Int) == 0) = false := by rw [beq_eq_false_iff_ne]; omega
  have hn0 : (0 : Int) < (L.length : Int) := by omega
  have hnow' : ¬ now < (HL.el L 0).at' := by omega
  clear h hnow
  generalize HL.el L 0 = x at *
  obtain ⟨xa, xf, xt, xd⟩ := x
  simp only at z0 hnow' HP
  have UC : Hid (∀ W, W = w.alloc (.cells #[.int .i64 0, .int .i64 0, .string ⟨#[]⟩] 60) → W.cell? ⟨w.heap.size, 0, none⟩ = some (.int .i64 0) ∧ W.cell? ⟨w.heap.size, 1, none⟩ = some (.int .i64 0) ∧ W.cell? ⟨w.heap.size, 2, none⟩ = some (.string ⟨#[]⟩) ∧ ∀ k, W.frozen? ⟨w.heap.size, k, none⟩ = false) := Lib.hid (by rintro W rfl; clear hc0 z0; exact ⟨by go_simp, by go_simp, by go_simp, fun k => by go_simp⟩)
  have HPW := Lib.hid (HP.out _ ((Below.refl w.heap.size w).alloc (Nat.le_refl _) (.cells #[.int .i64 0, .int .i64 0, .string ⟨#[]⟩] 60)))
  obtain ⟨LL, hLL⟩ : ∃ LL, L.take 0 ++ L.drop (0 + 1) = LL := ⟨_, rfl⟩
  rw [hLL] at HPW ⊢
  clear hLL HP
  generalize L.length = n at *
  go_enter Try.func23, Try.ntmps23
  go_wp2_with fail
  refine HPW.out.mono ?_
  rintro e X ⟨rfl, v', hI, hF, hlow⟩
  have hl0 : w.heap.size < (w.alloc (.cells #[.int .i64 0, .int .i64 0, .string ⟨#[]⟩] 60)).heap.size := by simp
  have hr0 : ¬ w.heap.size = rb := by omega
  have hU := UC.out _ rfl
  have u0 := (hF.cell (p := ⟨w.heap.size, 0, none⟩) hl0 hr0).trans hU.1
  have u1 := (hF.cell (p := ⟨w.heap.size, 1, none⟩) hl0 hr0).trans hU.2.1
  have u2 := (hF.cell (p := ⟨w.heap.size, 2, none⟩) hl0 hr0).trans hU.2.2.1
  have f0 := (hF.frozen (p := ⟨w.heap.size, 0, none⟩) hl0 hr0).trans (hU.2.2.2 _)
  have f1 := (hF.frozen (p := ⟨w.heap.size, 1, none⟩) hl0 hr0).trans (hU.2.2.2 _)
  have f2 := (hF.frozen (p := ⟨w.heap.size, 2, none⟩) hl0 hr0).trans (hU.2.2.2 _)
  have hzX : w.heap.size < X.heap.size := by have := hF.size; omega
  have HW := Lib.hid (Fr.trans ((Fr.refl (fun k => k = rb) w).alloc (.cells #[.int .i64 0, .int .i64 0, .string ⟨#[]⟩] 60)) hF (fun i hi _ => hi))
  have hx3 := cells3n (v0 := .int .i64 xf) (v1 := .int .i64 xt) (v2 := .string xd) u0 u1 u2
  obtain ⟨Y, hY⟩ : ∃ Y, ((X.setCell ⟨w.heap.size, 0, none⟩ (.int .i64 xf)).setCell ⟨w.heap.size, 1, none⟩ (.int .i64 xt)).setCell ⟨w.heap.size, 2, none⟩ (.string xd) = Y := ⟨_, rfl⟩
  rw [hY] at hx3
  obtain ⟨g0, g1, g2⟩ := hx3
  have HYF : Hid (Fr (fun k => k = w.heap.size) X Y) := Lib.hid (by rw [← hY]; exact (((Fr.refl (fun k => k = w.heap.size) X).setCell (p := ⟨w.heap.size, 0, none⟩) (fun _ => rfl) _).setCell (p := ⟨w.heap.size, 1, none⟩) (fun _ => rfl) _).setCell (p := ⟨w.heap.size, 2, none⟩) (fun _ => rfl) _)
  have HI := Lib.hid hI
  have HLO := Lib.hid hlow
  clear hI hF hlow hU HPW
  go_wp2
  refine bodyPost_ret (v := .tuple #[pkv xf xt xd, .bool true]) (by simp [results, Try.results23, go_sem, pkv, g0, g1, g2]) rfl ⟨rfl, v', HI.out.keep HYF.out (fun k hk e => ?_), Fr.trans HW.out HYF.out (fun i hi hlt => by omega), fun g hg => by have := HLO.out g hg; simp at this; omega⟩
  subst e
  rcases hk with hk | hk | hk
  · omega
  · have h9 := HLO.out _ hk; rw [World.size_alloc] at h9; omega
  · have := (HNE.out.o2.lt _ hk).2; omega

set_option maxHeartbeats 1000000 in
set_option maxRecDepth 100000 in
theorem rn_double_no {rb base : Nat} {v1 v2 : Value} {L : List St} {C : List (Int × Int)} {w : World} (h : RNI rb base v1 v2 L C w) (k : Int) (hk : k < 0 ∨ (L.length : Int) ≤ k ∨ 600 ≤ L.length) :
    Calls Try.prog 27 #[.pointer (some ⟨rb, 0, none⟩), .int .i64 k] w fun e w' => e = .returned (.bool false) ∧ w' = w := by
  obtain ⟨p1, c1, hv1⟩ := owns_slice h.o1
  have hc0 := h.c0
  rw [hv1] at hc0
  have hrl := cell_lt hc0
  clear h hv1
  generalize L.length = n at *
  have hcase : k < 0 ∨ (¬ k < 0 ∧ (n : Int) ≤ k) ∨ (¬ k < 0 ∧ ¬ (n : Int) ≤ k ∧ (600 : Int) ≤ n) := by omega
  clear hk
  rcases hcase with h0 | ⟨h0, h1⟩ | ⟨h0, h1, h2⟩
  · have d0 : decide (k < 0) = true := decide_eq_true h0
    go_enter Try.func27, Try.ntmps27
    go_wp2
    go_ret
    exact ⟨rfl, rfl⟩
  · have d0 : decide (k < 0) = false := decide_eq_false h0
    have d1 : decide ((n : Int) ≤ k) = true := decide_eq_true h1
    go_enter Try.func27, Try.ntmps27
    go_wp2
    go_ret
    exact ⟨rfl, rfl⟩
  · have d0 : decide (k < 0) = false := decide_eq_false h0
    have d1 : decide ((n : Int) ≤ k) = false := decide_eq_false h1
    have d2 : decide ((600 : Int) ≤ n) = true := decide_eq_true h2
    go_enter Try.func27, Try.ntmps27
    go_wp2
    go_ret
    exact ⟨rfl, rfl⟩

set_option maxHeartbeats 2000000 in
set_option maxRecDepth 100000 in
theorem rn_double {rb base : Nat} {v1 v2 : Value} {L : List St} {C : List (Int × Int)} {w : World} (h : RNI rb base v1 v2 L C w) (k : Nat) (hk : k < L.length) (hL : L.length < 600) :
    Calls Try.prog 27 #[.pointer (some ⟨rb, 0, none⟩), .int .i64 k] w fun e w' => e = .returned (.bool true) ∧ ∃ v', RNI rb base v' v2 (insS L (HL.el L k)) C w' ∧ Fr (fun k => k = rb) w w' ∧ ∀ g, v'.ownBlock = some g → w.heap.size ≤ g := by
  have HP := Lib.hid (fun at' fr to da => rn_put (h.below ((Below.refl _ w).drew)) (by omega) at' fr to da)
  obtain ⟨g, c, hv1, hgl⟩ : ∃ g c, v1 = .slice (some ⟨g, 0, none⟩) L.length c ∧ g < w.heap.size := by
    rcases owns_two h.o1 with ⟨e1, e2⟩ | ⟨g, c, e1, e2⟩
    · omega
    · exact ⟨g, c, e1, e2⟩
  subst hv1
  have hc0 := h.c0
  have hrl : rb < w.heap.size := cell_lt hc0
  obtain ⟨z0, z1, z2, z3⟩ := h.cells k hk
  have d0 : decide ((k : Int) < 0) = false := decide_eq_false (by omega)
  have d1 : decide ((L.length : Int) ≤ (k : Int)) = false := decide_eq_false (by omega)
  have d2 : decide ((600 : Int) ≤ (L.length : Int)) = false := decide_eq_false (by omega)
  have hkI : (k : Int) < (L.length : Int) := by omega
  clear h
  generalize HL.el L k = x at *
  obtain ⟨xa, xf, xt, xd⟩ := x
  simp only at z0 z1 z2 z3
  have q0 : ∀ q : Later w, q.1.cell? ⟨rb, 0, none⟩ = some (.slice (some ⟨g, 0, none⟩) L.length c) := fun q => (q.2.cell (p := ⟨rb, 0, none⟩) hrl).trans hc0
  have x0 : ∀ q : Later w, q.1.cell? ⟨g, k * 4, none⟩ = some (.int .i64 xa) := fun q => (q.2.cell (p := ⟨g, k * 4, none⟩) hgl).trans z0
  have x1 : ∀ q : Later w, q.1.cell? ⟨g, k * 4 + 1, none⟩ = some (.int .i64 xf) := fun q => (q.2.cell (p := ⟨g, k * 4 + 1, none⟩) hgl).trans z1
  have x2 : ∀ q : Later w, q.1.cell? ⟨g, k * 4 + 1 + 1, none⟩ = some (.int .i64 xt) := fun q => (q.2.cell (p := ⟨g, k * 4 + 2, none⟩) hgl).trans z2
  have x3 : ∀ q : Later w, q.1.cell? ⟨g, k * 4 + 1 + 2, none⟩ = some (.string xd) := fun q => (q.2.cell (p := ⟨g, k * 4 + 3, none⟩) hgl).trans z3
  have HPX := Lib.hid (HP.out xa xf xt xd)
  have HBd : Hid (Below w.heap.size w w.drew) := Lib.hid ((Below.refl _ w).drew)
  clear z0 z1 z2 z3 HP
  generalize L.length = n at *
  go_enter Try.func27, Try.ntmps27
  go_wp2_with fail
  refine Mix.region_mix (n := 17) (m := 1) (fun V => ∃ q : Later w, V = q.1) [0, 1, 2, 3, 4, 5, 6, 7, 8, 9, 10, 11, 12, 13, 14, 15, 16] (by kernel_rfl) rfl rfl (by kernel_rfl) (by kernel_rfl) ⟨⟨w.drew, HBd.out⟩, rfl⟩ ?_
  repeat (refine Mix.picks_step rfl ?_; go_big_quiet_step (fail))
  refine Mix.picks_nil ?_
  intro inv
  refine sink_last (by kernel_rfl) rfl (by kernel_rfl) (fun K hK => ?_)
  have HKK := Lib.hid hK
  clear hK
  go_simp
  go_at_call 39
  refine HPX.out.mono ?_
  rintro e w4 ⟨rfl, v3, h1, h2, h3⟩
  have HE : Hid (RNI rb base v3 v2 (insS L ⟨xa, xf, xt, xd⟩) C w4 ∧ Fr (fun k => k = rb) w w4 ∧ ∀ g, v3.ownBlock = some g → w.heap.size ≤ g) := Lib.hid ⟨h1, Fr.trans ((Fr.refl (fun k => k = rb) w).drew) h2 (fun i hi _ => hi), h3⟩
  clear h1 h2 h3 HPX
  refine HKK.out _ _ ⟨rfl, ?_⟩
  clear HKK inv q0 x0 x1 x2 x3
  go_wp2
  go_ret
  exact ⟨rfl, v3, HE.out⟩

set_option maxHeartbeats 1000000 in
set_option maxRecDepth 100000 in
theorem rn_delay_no {rb base : Nat} {v1 v2 : Value} {L : List St} {C : List (Int × Int)} {w : World} (h : RNI rb base v1 v2 L C w) (k b : Int) (hk : k < 0 ∨ (L.length : Int) ≤ k ∨ b < 0) :
    Calls Try.prog 28 #[.pointer (some ⟨rb, 0, none⟩), .int .i64 k, .int .i64 b] w fun e w' => e = .returned (.bool false) ∧ w' = w := by
  obtain ⟨p1, c1, hv1⟩ := owns_slice h.o1
  have hc0 := h.c0
  rw [hv1] at hc0
  have hrl := cell_lt hc0
  clear h hv1
  generalize L.length = n at *
  have hcase : k < 0 ∨ (¬ k < 0 ∧ (n : Int) ≤ k) ∨ (¬ k < 0 ∧ ¬ (n : Int) ≤ k ∧ b < 0) := by omega
  clear hk
  rcases hcase with h0 | ⟨h0, h1⟩ | ⟨h0, h1, h2⟩
  · have d0 : decide (k < 0) = true := decide_eq_true h0
    go_enter Try.func28, Try.ntmps28
    go_wp2
    go_ret
    exact ⟨rfl, rfl⟩
  · have d0 : decide (k < 0) = false := decide_eq_false h0
    have d1 : decide ((n : Int) ≤ k) = true := decide_eq_true h1
    go_enter Try.func28, Try.ntmps28
    go_wp2
    go_ret
    exact ⟨rfl, rfl⟩
  · have d0 : decide (k < 0) = false := decide_eq_false h0
    have d1 : decide ((n : Int) ≤ k) = false := decide_eq_false h1
    have d2 : decide (b < 0) = true := decide_eq_true h2
    go_enter Try.func28, Try.ntmps28
    go_wp2
    go_ret
    exact ⟨rfl, rfl⟩

/-- When a packet comes that is put off. -/
def later (a b : Int) : Int := if 9223372036854775807 - b < a then 9223372036854775807 else a + b

set_option maxHeartbeats 4000000 in
set_option maxRecDepth 100000 in
theorem rn_delay {rb base : Nat} {v1 v2 : Value} {L : List St} {C : List (Int × Int)} {w : World} (h : RNI rb base v1 v2 L C w) (k : Nat) (hk : k < L.length) (hL : L.length ≤ 600) (b : Int) (hb0 : 0 ≤ b) (hb1 : b ≤ 9223372036854775807) (ha : -9223372036854775808 ≤ (HL.el L k).at' ∧ (HL.el L k).at' ≤ 9223372036854775807) :
    Calls Try.prog 28 #[.pointer (some ⟨rb, 0, none⟩), .int .i64 k, .int .i64 b] w fun e w' => e = .returned (.bool true) ∧ ∃ v', RNI rb base v' v2 (insS (L.take k ++ L.drop (k + 1)) ⟨later (HL.el L k).at' b, (HL.el L k).fr, (HL.el L k).to, (HL.el L k).da⟩) C w' ∧ Fr (fun k => k = rb) w w' ∧ ∀ g, v'.ownBlock = some g → w.heap.size ≤ g := by
  have HPL := Lib.hid (rn_pull h k hk (by omega))
  have HPU : Hid (∀ v' W at' fr to da, RNI rb base v' v2 (L.take k ++ L.drop (k + 1)) C W → Calls Try.prog 39 #[.pointer (some ⟨rb, 0, none⟩), .int .i64 at', .agg #[.int .i64 fr, .int .i64 to, .string da]] W fun e w' => e = .returned (.tuple #[]) ∧ ∃ v'', RNI rb base v'' v2 (insS (L.take k ++ L.drop (k + 1)) ⟨at', fr, to, da⟩) C w' ∧ Fr (fun k => k = rb) W w' ∧ ∀ g, v''.ownBlock = some g → W.heap.size ≤ g) := Lib.hid (fun v' W at' fr to da hI => rn_put hI (by rw [List.length_append, List.length_take, List.length_drop]; omega) at' fr to da)
  obtain ⟨g, c, hv1, hgl⟩ : ∃ g c, v1 = .slice (some ⟨g, 0, none⟩) L.length c ∧ g < w.heap.size := by
    rcases owns_two h.o1 with ⟨e1, e2⟩ | ⟨g, c, e1, e2⟩
    · omega
    · exact ⟨g, c, e1, e2⟩
  subst hv1
  have hc0 := h.c0
  have hrl : rb < w.heap.size := cell_lt hc0
  have z0 := (h.cells k hk).1
  have d0 : decide ((k : Int) < 0) = false := decide_eq_false (by omega)
  have d1 : decide ((L.length : Int) ≤ (k : Int)) = false := decide_eq_false (by omega)
  have d2 : decide (b < 0) = false := decide_eq_false (by omega)
  have hkI : (k : Int) < (L.length : Int) := by omega
  clear h
  generalize HL.el L k = x at *
  obtain ⟨xa, xf, xt, xd⟩ := x
  simp only at z0 HPL ha ⊢
  generalize L.take k ++ L.drop (k + 1) = LL at *
  generalize L.length = n at *
  have hcase : (xa ≤ 0) ∨ (0 < xa ∧ 9223372036854775807 - xa < b) ∨ (0 < xa ∧ ¬ 9223372036854775807 - xa < b) := by omega
  rcases hcase with h0 | ⟨h0, h1⟩ | ⟨h0, h1⟩
  · have e0 : decide (0 < xa) = false := decide_eq_false (by omega)
    have hla : later xa b = xa + b := by unfold later; rw [if_neg (by omega)]
    have hwr : IntKind.i64.wrap (xa + b) = xa + b := IntWalk.i64_in _ (by omega)
    rw [hla]
    clear hla
    go_enter Try.func28, Try.ntmps28
    go_wp2_with fail
    refine HPL.out.mono ?_
    rintro e w3 ⟨rfl, v3, hI3, hF3, hl3⟩
    have HI3 := Lib.hid (hI3.below ((Below.refl _ w3).alloc (Nat.le_refl _) (.cells #[.int .i64 xf, .int .i64 xt, .string xd] 60)))
    have HF3 := Lib.hid hF3
    have hs3 := hF3.size
    clear hI3 hF3 hl3 HPL
    unfold pkv
    have HPP := Lib.hid (HPU.out v3 _ (xa + b) xf xt xd HI3.out)
    go_wp2_with fail
    refine HPP.out.mono ?_
    rintro e w4 ⟨rfl, v4, hI4, hF4, hl4⟩
    have HE : Hid (RNI rb base v4 v2 _ C w4 ∧ Fr (fun k => k = rb) w w4 ∧ ∀ g, v4.ownBlock = some g → w.heap.size ≤ g) := Lib.hid ⟨hI4, Fr.trans HF3.out (Fr.trans ((Fr.refl (fun k => k = rb) w3).alloc _) hF4 (fun i hi _ => hi)) (fun i hi _ => hi), fun g hg => by have := hl4 g hg; simp at this; omega⟩
    clear hI4 hF4 hl4 HPP HPU
    go_wp2
    go_ret
    exact ⟨rfl, v4, HE.out⟩
  · have e0 : decide (0 < xa) = true := decide_eq_true h0
    have hla : later xa b = 9223372036854775807 := by unfold later; rw [if_pos (by omega)]
    have hws : IntKind.i64.wrap (9223372036854775807 - xa) = 9223372036854775807 - xa := IntWalk.i64_in _ (by omega)
    have e1 : decide (9223372036854775807 - xa < b) = true := decide_eq_true h1
    rw [hla]
    clear hla
    go_enter Try.func28, Try.ntmps28
    go_wp2_with fail
    refine HPL.out.mono ?_
    rintro e w3 ⟨rfl, v3, hI3, hF3, hl3⟩
    have HI3 := Lib.hid (hI3.below ((Below.refl _ w3).alloc (Nat.le_refl _) (.cells #[.int .i64 xf, .int .i64 xt, .string xd] 60)))
    have HF3 := Lib.hid hF3
    have hs3 := hF3.size
    clear hI3 hF3 hl3 HPL
    unfold pkv
    have HPP := Lib.hid (HPU.out v3 _ 9223372036854775807 xf xt xd HI3.out)
    go_wp2_with fail
    refine HPP.out.mono ?_
    rintro e w4 ⟨rfl, v4, hI4, hF4, hl4⟩
    have HE : Hid (RNI rb base v4 v2 _ C w4 ∧ Fr (fun k => k = rb) w w4 ∧ ∀ g, v4.ownBlock = some g → w.heap.size ≤ g) := Lib.hid ⟨hI4, Fr.trans HF3.out (Fr.trans ((Fr.refl (fun k => k = rb) w3).alloc _) hF4 (fun i hi _ => hi)) (fun i hi _ => hi), fun g hg => by have := hl4 g hg; simp at this; omega⟩
    clear hI4 hF4 hl4 HPP HPU
    go_wp2
    go_ret
    exact ⟨rfl, v4, HE.out⟩
  · have e0 : decide (0 < xa) = true := decide_eq_true h0
    have hla : later xa b = xa + b := by unfold later; rw [if_neg (by omega)]
    have hws : IntKind.i64.wrap (9223372036854775807 - xa) = 9223372036854775807 - xa := IntWalk.i64_in _ (by omega)
    have e1 : decide (9223372036854775807 - xa < b) = false := decide_eq_false h1
    have hwr : IntKind.i64.wrap (xa + b) = xa + b := IntWalk.i64_in _ (by omega)
    rw [hla]
    clear hla
    go_enter Try.func28, Try.ntmps28
    go_wp2_with fail
    refine HPL.out.mono ?_
    rintro e w3 ⟨rfl, v3, hI3, hF3, hl3⟩
    have HI3 := Lib.hid (hI3.below ((Below.refl _ w3).alloc (Nat.le_refl _) (.cells #[.int .i64 xf, .int .i64 xt, .string xd] 60)))
    have HF3 := Lib.hid hF3
    have hs3 := hF3.size
    clear hI3 hF3 hl3 HPL
    unfold pkv
    have HPP := Lib.hid (HPU.out v3 _ (xa + b) xf xt xd HI3.out)
    go_wp2_with fail
    refine HPP.out.mono ?_
    rintro e w4 ⟨rfl, v4, hI4, hF4, hl4⟩
    have HE : Hid (RNI rb base v4 v2 _ C w4 ∧ Fr (fun k => k = rb) w w4 ∧ ∀ g, v4.ownBlock = some g → w.heap.size ≤ g) := Lib.hid ⟨hI4, Fr.trans HF3.out (Fr.trans ((Fr.refl (fun k => k = rb) w3).alloc _) hF4 (fun i hi _ => hi)) (fun i hi _ => hi), fun g hg => by have := hl4 g hg; simp at this; omega⟩
    clear hI4 hF4 hl4 HPP HPU
    go_wp2
    go_ret
    exact ⟨rfl, v4, HE.out⟩
end Go.Proofs.Ythdpajgnigilhaa

