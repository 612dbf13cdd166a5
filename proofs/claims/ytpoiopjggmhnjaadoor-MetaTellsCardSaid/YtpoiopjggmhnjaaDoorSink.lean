/- A region that draws its order, whose last operation waits for all others: a condition on the world that holds till then serves to take loads first. No program in sight. -/
import Derived.Test.YtpoiopjggmhnjaaDoorRows
import Derived.WalkKit
import Derived.StillTail
import Derived.OrdersHeld
import Derived.Deep.RegionHeld
namespace Go.Proofs.YtpoiopjggmhnjaaDoor
open Go.RowKit

section
variable {P : Program} {ops : Array Oper} {Q : Exit → Act → World → Prop} {md : Region.Mode} {S : World → Prop}

/-- Whatever order is picked; S holds behind every operation but number n. -/
def WpSink (P : Program) (md : Region.Mode) (ops : Array Oper) (Q : Exit → Act → World → Prop) (S : World → Prop) (n : Nat) : Nat → Array Bool → Act → World → Prop
  | 0, listed, a, w => Region.ready md ops listed = [] ∧ Q .normal a w
  | fuel + 1, listed, a, w =>
    (Region.ready md ops listed = [] → Q .normal a w) ∧
    ∀ i ∈ Region.ready md ops listed, wpOp P ops Q i (fun a' w' => (i ≠ n → S w') ∧ WpSink P md ops Q S n fuel (listed.setIfInBounds i true) a' w') a w

theorem any_of_sink {n : Nat} : ∀ (fuel : Nat) (listed : Array Bool) (a : Act) (w : World), WpSink P md ops Q S n fuel listed a w → wpAny P md ops Q fuel listed a w
  | 0, _, _, _, h => h
  | fuel + 1, _, _, _, h => ⟨h.1, fun i hi => wpOp_mono (fun _ _ h' => any_of_sink fuel _ _ _ h'.2) (h.2 i hi)⟩

theorem sink_first {n i : Nat} {oi : Oper} {v : Value} (hs : Region.sinkB md ops n = true) (hc : Region.chainB md ops n = true) (hn : n < ops.size) (hin : i < n) (hi : ops[i]? = some oi)
    (hsel : ∀ (j : Nat) (o : Oper) cs b, ops[j]? = some o → o.op ≠ .select cs b) (hQ : ∀ c a w, Q (.panic c) (a.put oi.dst v) w → Q (.panic c) a w) :
    ∀ (fuel : Nat) (listed : Array Bool) (a : Act) (w : World), HeadInv md ops n listed →
      (∀ j oj, ops[j]? = some oj → j ≠ i → listed.getD j true = false → (∀ e ∈ oj.after, Region.binds md e = true → e.on ≠ i) → oi.apart ops oj = true) →
      i ∈ Region.ready md ops listed → YieldsIf P ops S oi v a → S w →
      WpSink P md ops Q S n fuel (listed.setIfInBounds i true) (a.put oi.dst v) w → WpSink P md ops Q S n (fuel + 1) listed a w := by
  intro fuel
  induction fuel with
  | zero =>
    intro listed a w inv hfree hr hy hS H
    refine ⟨fun h => (by rw [h] at hr; cases hr), fun j hj => ?_⟩
    by_cases hji : j = i
    · subst hji; exact hy.wpOp hi hS ⟨fun _ => hS, H⟩
    · have h1 := ready_mono hj hji
      rw [H.1] at h1
      cases h1
  | succ fuel ih =>
    intro listed a w inv hfree hr hy hS H
    have hun := (mem_ready.1 hr).1
    refine ⟨fun h => (by rw [h] at hr; cases hr), fun j hj => ?_⟩
    by_cases hji : j = i
    · subst hji; exact hy.wpOp hi hS ⟨fun _ => hS, H⟩
    · have hjn : j < n := by
        rcases Nat.lt_or_ge j n with h | h
        · exact h
        · exact absurd hj (tail_waits hs hc hn inv _ i rfl hin hun j h)
      have h1 := H.2 j (ready_mono hj hji)
      obtain ⟨hjun, oj, hoj, hw⟩ := mem_ready.1 hj
      have hnot : ∀ e ∈ oj.after, Region.binds md e = true → e.on ≠ i := fun e he hb heq => by
        have h3 := hw e he hb
        rw [heq, getD_both hun] at h3
        cases h3
      have h2 := wpOp_putIf hoj (hfree j oj hoj hji hjun hnot) (fun cs b => hsel i oi cs b hi) (fun cs b => hsel j oj cs b hoj) hQ hy h1
      have hfree' : ∀ k ok, ops[k]? = some ok → k ≠ i → (listed.setIfInBounds j true).getD k true = false →
          (∀ e ∈ ok.after, Region.binds md e = true → e.on ≠ i) → oi.apart ops ok = true := fun k ok hk hki hkun hno => by
        refine hfree k ok hk hki ?_ hno
        by_cases hjk : j = k
        · subst hjk; exact hjun
        · rw [getD_set_ne true hjk] at hkun; exact hkun
      refine wpOp_mono (fun a' w' h3 => ⟨fun _ => h3.2.1 (by omega), ih (listed.setIfInBounds j true) a' w' (inv.set hj hjn) hfree' (ready_mono hr (Ne.symm hji)) h3.1 (h3.2.1 (by omega)) ?_⟩) h2
      rw [Array.setIfInBounds_comm _ _ hji]
      exact h3.2.2

/-- Number i is taken first. -/
theorem sink_take {n i : Nat} {oi : Oper} {v : Value} {fuel : Nat} {listed : Array Bool} {a : Act} {w : World} (hB : (Region.sinkB md ops n && Region.chainB md ops n && decide (n < ops.size) && Region.noSelect ops) = true) (inv : HeadInv md ops n listed) (hi : ops[i]? = some oi)
    (hf : (decide (i < n) && Region.free md ops listed i && (Region.ready md ops listed).contains i) = true)
    (hQ : ∀ c a w, Q (.panic c) (a.put oi.dst v) w → Q (.panic c) a w) (hy : YieldsIf P ops S oi v a) (hS : S w)
    (h : HeadInv md ops n (listed.setIfInBounds i true) → WpSink P md ops Q S n fuel (listed.setIfInBounds i true) (a.put oi.dst v) w) : WpSink P md ops Q S n (fuel + 1) listed a w := by
  simp only [Bool.and_eq_true, decide_eq_true_eq] at hB hf
  obtain ⟨⟨⟨h1, h2⟩, h3⟩, h5⟩ := hB
  obtain ⟨⟨h6, h7⟩, h8⟩ := hf
  have hr : i ∈ Region.ready md ops listed := by simpa using h8
  exact sink_first h1 h2 h3 h6 hi (Region.noSelect_spec h5) hQ fuel listed a w inv (Region.free_spec hi h7) hr hy hS (h (inv.set hr h6))

/-- One operation alone may come up. -/
theorem sink_one {n i : Nat} {o : Oper} {fuel : Nat} {listed : Array Bool} {a : Act} {w : World} (hr : Region.ready md ops listed = [i]) (hi : ops[i]? = some o) (hin : i < n) (inv : HeadInv md ops n listed)
    (h : ∀ K : Act → World → Prop, (∀ a' w', S w' → (S w' → HeadInv md ops n (listed.setIfInBounds i true) → WpSink P md ops Q S n fuel (listed.setIfInBounds i true) a' w') → K a' w') →
      if Region.wanted o (yielded ops a.tmps) = true then Oper.wp P o a w K Q else K (a.put o.dst undef) w) : WpSink P md ops Q S n (fuel + 1) listed a w := by
  refine ⟨fun h0 => (by rw [h0] at hr; cases hr), fun j hj => ?_⟩
  have hji : j = i := by rw [hr] at hj; simpa using hj
  subst hji
  have h9 := h (fun a' w' => (j ≠ n → S w') ∧ WpSink P md ops Q S n fuel (listed.setIfInBounds j true) a' w') (fun a' w' hS hK => ⟨fun _ => hS, hK hS (inv.set hj hin)⟩)
  unfold wpOp
  simp only [hi]
  split
  · rename_i hw
    rw [if_pos hw] at h9
    exact .inl h9
  · rename_i hw
    rw [if_neg hw] at h9
    exact h9

/-- Two operations may come up. -/
theorem sink_two {n i j : Nat} {o o2 : Oper} {fuel : Nat} {listed : Array Bool} {a : Act} {w : World} (hr : Region.ready md ops listed = [i, j]) (hi : ops[i]? = some o) (hj : ops[j]? = some o2) (hin : i < n) (hjn : j < n) (inv : HeadInv md ops n listed)
    (h : ∀ K : Act → World → Prop, (∀ a' w', S w' → (S w' → HeadInv md ops n (listed.setIfInBounds i true) → WpSink P md ops Q S n fuel (listed.setIfInBounds i true) a' w') → K a' w') →
      if Region.wanted o (yielded ops a.tmps) = true then Oper.wp P o a w K Q else K (a.put o.dst undef) w)
    (h2 : ∀ K : Act → World → Prop, (∀ a' w', S w' → (S w' → HeadInv md ops n (listed.setIfInBounds j true) → WpSink P md ops Q S n fuel (listed.setIfInBounds j true) a' w') → K a' w') →
      if Region.wanted o2 (yielded ops a.tmps) = true then Oper.wp P o2 a w K Q else K (a.put o2.dst undef) w) : WpSink P md ops Q S n (fuel + 1) listed a w := by
  refine ⟨fun h0 => (by rw [h0] at hr; cases hr), fun k hk => ?_⟩
  rw [hr] at hk
  rcases List.mem_cons.1 hk with rfl | hk
  · have h9 := h (fun a' w' => (k ≠ n → S w') ∧ WpSink P md ops Q S n fuel (listed.setIfInBounds k true) a' w') (fun a' w' hS hK => ⟨fun _ => hS, hK hS (inv.set (by rw [hr]; exact List.mem_cons_self) hin)⟩)
    unfold wpOp
    simp only [hi]
    split
    · rename_i hw
      rw [if_pos hw] at h9
      exact .inl h9
    · rename_i hw
      rw [if_neg hw] at h9
      exact h9
  · obtain rfl : k = j := by simpa using hk
    have h9 := h2 (fun a' w' => (k ≠ n → S w') ∧ WpSink P md ops Q S n fuel (listed.setIfInBounds k true) a' w') (fun a' w' hS hK => ⟨fun _ => hS, hK hS (inv.set (by rw [hr]; exact List.mem_cons_of_mem _ hk) hjn)⟩)
    unfold wpOp
    simp only [hj]
    split
    · rename_i hw
      rw [if_pos hw] at h9
      exact .inl h9
    · rename_i hw
      rw [if_neg hw] at h9
      exact h9

/-- The last one. -/
theorem sink_last {n : Nat} {o : Oper} {fuel : Nat} {listed : Array Bool} {a : Act} {w : World} (hr : Region.ready md ops listed = [n]) (hi : ops[n]? = some o) (hr2 : Region.ready md ops (listed.setIfInBounds n true) = [])
    (h : ∀ K : Act → World → Prop, (∀ a' w', Q .normal a' w' → K a' w') →
      if Region.wanted o (yielded ops a.tmps) = true then Oper.wp P o a w K Q else K (a.put o.dst undef) w) : WpSink P md ops Q S n (fuel + 1) listed a w := by
  refine ⟨fun h0 => (by rw [h0] at hr; cases hr), fun j hj => ?_⟩
  have hji : j = n := by rw [hr] at hj; simpa using hj
  subst hji
  have h9 := h (fun a' w' => (j ≠ j → S w') ∧ WpSink P md ops Q S j fuel (listed.setIfInBounds j true) a' w') (fun a' w' hq => ⟨fun h => absurd rfl h, by
    cases fuel with
    | zero => exact ⟨hr2, hq⟩
    | succ f => exact ⟨fun _ => hq, fun k hk => by rw [hr2] at hk; cases hk⟩⟩)
  unfold wpOp
  simp only [hi]
  split
  · rename_i hw
    rw [if_pos hw] at h9
    exact .inl h9
  · rename_i hw
    rw [if_neg hw] at h9
    exact h9

theorem region_sink {id n : Nat} {a : Act} {w : World} (S : World → Prop) (hm : P.follows .mixedOrders = true) (hsz : ops.size = n + 1) (hS : S w.drew)
    (h : HeadInv .any ops n (Array.replicate ops.size false) → S w.drew → WpSink P .any ops Q S n (n + 1) (Array.replicate (n + 1) false) a w.drew) : (Code.region id ops true).wp P Q a w := by
  refine wp_region_any hm (any_of_sink (S := S) (n := n) _ _ _ _ ?_)
  have inv : HeadInv .any ops n (Array.replicate ops.size false) := ⟨by simp, fun j oj _ hl => (by rw [getD_replicate_false] at hl; cases hl), fun t _ ht => (by simp [ht])⟩
  have h9 := h inv hS
  rw [hsz]
  exact h9
end
end Go.Proofs.YtpoiopjggmhnjaaDoor
