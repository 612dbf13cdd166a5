/- A region that draws its order, one operation of which is loud and waits for all ahead of it: those ahead only read (walked once), those behind only move. No program in sight. (XLoudIn without a fence.) -/
import Derived.Test.YtjpmebfegpmccaaGreatLater
import Derived.StillTail
namespace Go.Proofs.YtjpmebfegpmccaaGreat
open Go.RowKit

namespace Loud
def full (l : List Oper) (n : Nat) (m : List Bool) : Array Bool := (m ++ List.replicate (l.length - n) false).toArray
/-- Each waits only for such as stand ahead of it. -/
def lowB (l : List Oper) (n : Nat) : Bool := (List.range n).all fun i => match l[i]? with
  | none => true
  | some o => o.after.all fun e => !Region.binds .any e || decide (e.on < i)
def headOk (l : List Oper) (n : Nat) : Bool := Region.sinkB .any l.toArray n && Region.chainB .any l.toArray n && lowB l n
def tailOk (l : List Oper) (n : Nat) : Bool :=
  decide (Region.ready .any l.toArray (full l n (List.replicate n true)) = [n]) && Region.noSelect l.toArray && Region.lexFrom .any l.toArray (l.drop (n + 1)).length (n + 1) ((full l n (List.replicate n true)).setIfInBounds n true)
def plainHead (l : List Oper) (n : Nat) : Bool := (l.take n).all (fun o => o.guard.isNone)

section
variable {P : Program} {l : List Oper} {C : World → Prop} {Q : Exit → Act → World → Prop}

theorem full_get {n : Nat} {m : List Bool} (hl : m.length = n) {j : Nat} (hj : j < n) (d : Bool) : (full l n m).getD j d = m.getD j d := by
  unfold full
  rw [Array.getD_eq_getD_getElem?, List.getElem?_toArray, List.getElem?_append_left (by omega), List.getD_eq_getElem?_getD]
theorem full_far {n : Nat} {m : List Bool} (hl : m.length = n) {j : Nat} (hj : n ≤ j) : (full l n m).getD j false = false := by
  unfold full
  rw [Array.getD_eq_getD_getElem?, List.getElem?_toArray, List.getElem?_append_right (by omega), List.getElem?_replicate]
  split <;> rfl
theorem least {m : List Bool} : ∀ (k : Nat), k < m.length → m.getD k true = false → ∃ x, x ≤ k ∧ m.getD x true = false ∧ ∀ y, y < x → m.getD y false = true := by
  intro k
  induction k using Nat.strongRecOn with
  | _ k ih =>
    intro hk hf
    by_cases h : ∃ y, y < k ∧ m.getD y true = false
    · obtain ⟨y, hy, hyf⟩ := h
      obtain ⟨x, h1, h2, h3⟩ := ih y hy (by omega) hyf
      exact ⟨x, by omega, h2, h3⟩
    · refine ⟨k, Nat.le_refl _, hf, fun y hy => ?_⟩
      cases hc : m.getD y false with
      | true => rfl
      | false =>
        refine absurd ⟨y, hy, ?_⟩ h
        rw [List.getD_eq_getElem?_getD, List.getElem?_eq_getElem (by omega)] at hc ⊢
        exact hc

theorem head_any {n T : Nat} {Q1 : Act → Prop} (hg : plainHead l n = true) (hn : n < l.length) (hO : headOk l n = true)
    (fin : ∀ a w, C w → Q1 a → wpAny P .any l.toArray Q T (full l n (List.replicate n true)) a w) :
    ∀ (fuel : Nat) (m : List Bool) (a : Act) (w : World), m.length = n → m.count false = fuel → HeadInv .any l.toArray n (full l n m) → C w → wpAnyQ P .any (l.take n).toArray C Q1 fuel m.toArray a → wpAny P .any l.toArray Q (fuel + T) (full l n m) a w
  | 0, m, a, w, hl, hc, _, hw, h => by
    have e : m = List.replicate n true := by
      rw [← hl]
      refine List.eq_replicate_of_mem (fun b hb => ?_)
      cases b with
      | true => rfl
      | false => exact absurd hb (List.count_eq_zero.1 hc)
    rw [Nat.zero_add, e]
    exact fin a w hw h.2
  | fuel + 1, m, a, w, hl, hc, inv, hw, h => by
    simp only [headOk, Bool.and_eq_true] at hO
    obtain ⟨⟨hs, hch⟩, hlow⟩ := hO
    have hex : ∃ k, k < m.length ∧ m.getD k true = false := by
      have h1 : false ∈ m := List.count_pos_iff.1 (by omega)
      obtain ⟨k, hk, e⟩ := List.getElem_of_mem h1
      exact ⟨k, hk, by rw [List.getD_eq_getElem?_getD, List.getElem?_eq_getElem hk, e]; rfl⟩
    obtain ⟨k, hk, hkf⟩ := hex
    have hwait : ∀ t, n ≤ t → t ∉ Region.ready .any l.toArray (full l n m) := tail_waits hs hch (by simpa using hn) inv _ k rfl (by omega) (by rw [full_get hl (by omega)]; exact hkf)
    rw [Nat.add_right_comm]
    refine ⟨fun h0 => ?_, fun i hi => ?_⟩
    · obtain ⟨x, hx1, hx2, hx3⟩ := least k hk hkf
      have hxn : x < n := by omega
      have hr : x ∈ Region.ready .any l.toArray (full l n m) := by
        refine mem_ready.2 ⟨by rw [full_get hl hxn]; exact hx2, l[x]'(by omega), by rw [List.getElem?_toArray]; exact List.getElem?_eq_getElem (by omega), fun e he hb => ?_⟩
        have h1 := List.all_eq_true.1 hlow x (List.mem_range.2 hxn)
        rw [List.getElem?_eq_getElem (by omega)] at h1
        simp only at h1
        have h2 := Array.all_eq_true_iff_forall_mem.1 h1 e he
        simp only [hb, Bool.not_true, Bool.false_or, decide_eq_true_eq] at h2
        rw [full_get hl (by omega)]
        exact hx3 _ h2
      rw [h0] at hr
      cases hr
    · have hin : i < n := by
        rcases Nat.lt_or_ge i n with h1 | h1
        · exact h1
        · exact absurd hi (hwait i h1)
      obtain ⟨hun, oi, hoi, hall⟩ := mem_ready.1 hi
      have hoi2 : (l.take n)[i]? = some oi := by rw [List.getElem?_take_of_lt hin, ← List.getElem?_toArray]; exact hoi
      have hunm : m.getD i true = false := by rw [← full_get hl hin]; exact hun
      have hi2 : i ∈ Region.ready .any (l.take n).toArray m.toArray := by
        refine mem_ready.2 ⟨by rw [Array.getD_eq_getD_getElem?, List.getElem?_toArray, ← List.getD_eq_getElem?_getD]; exact hunm, oi, by rw [List.getElem?_toArray]; exact hoi2, fun e he hb => ?_⟩
        have h1 := hall e he hb
        rcases Nat.lt_or_ge e.on n with h2 | h2
        · rw [full_get hl h2] at h1
          rw [Array.getD_eq_getD_getElem?, List.getElem?_toArray, ← List.getD_eq_getElem?_getD]
          exact h1
        · rw [full_far hl h2] at h1
          cases h1
      have hq := h.2 i hi2
      have hgd : oi.guard = none := by
        have := List.all_eq_true.1 hg oi (List.mem_of_getElem? hoi2)
        simpa using this
      have hset : (full l n m).setIfInBounds i true = full l n (m.set i true) := by
        unfold full
        rw [List.setIfInBounds_toArray, List.set_append_left _ _ (by omega)]
      have hinv := inv.set hi hin
      rw [hset] at hinv
      unfold qOp at hq
      unfold wpOp
      have hoi3 : (l.take n).toArray[i]? = some oi := by rw [List.getElem?_toArray]; exact hoi2
      simp only [hoi3, Region.wanted, hgd, if_true] at hq
      simp only [hoi, Region.wanted, hgd, if_true]
      refine .inl (Oper.wp_of_quiet hw (fun a' w' hw' hk => ?_) hq)
      rw [hset]
      refine head_any hg hn (by simp only [headOk, Bool.and_eq_true]; exact ⟨⟨hs, hch⟩, hlow⟩) fin fuel (m.set i true) a' w' (by rw [List.length_set, hl]) ?_ hinv hw' ?_
      · have e1 := List.count_set (a := true) (b := false) (l := m) (i := i) (by omega)
        have e2 : m[i]'(by omega) = false := by
          rw [List.getD_eq_getElem?_getD, List.getElem?_eq_getElem (by omega)] at hunm
          exact hunm
        rw [e1, e2]
        simp
        omega
      · rw [List.setIfInBounds_toArray] at hk
        exact hk

theorem wp_region_loud {id n : Nat} {a : Act} {w : World} {o : Oper} (C : World → Prop) (hg : plainHead l n = true) (ho : l[n]? = some o) (hog : o.guard = none) (hm : P.follows .mixedOrders = true)
    (hB : Region.lexB .any (l.take n).toArray = true) (hM : headOk l n = true) (hT : tailOk l n = true) (hC : C w.drew)
    (h : wpQuiet P (l.take n).toArray C (fun a' => ∀ w', C w' → ∀ K : Act → World → Prop, (∀ a2 w2, wpQuiet P l.toArray (fun x => x = w2) (fun a3 => Q .normal a3 w2) (l.drop (n + 1)) a2 → K a2 w2) → o.wp P a' w' K Q) (l.take n) a) :
    (Code.region id l.toArray true).wp P Q a w := by
  have hn : n < l.length := (List.getElem?_eq_some_iff.1 ho).1
  have hol : l.toArray[n]? = some o := by rw [List.getElem?_toArray]; exact ho
  simp only [tailOk, Bool.and_eq_true, decide_eq_true_eq] at hT
  obtain ⟨⟨hT1, hT2⟩, hT3⟩ := hT
  simp only [Region.lexB, Bool.and_eq_true] at hB
  refine wp_region_any hm ?_
  have hsz : l.toArray.size = n + ((l.drop (n + 1)).length + 1) := by rw [List.length_drop]; simp; omega
  have hlt : (l.take n).length = n := by rw [List.length_take]; omega
  have e0 : Array.replicate l.toArray.size false = full l n (List.replicate n false) := by
    unfold full
    rw [List.replicate_append_replicate, show n + (l.length - n) = l.toArray.size by simp; omega, ← List.toArray_replicate]
  rw [e0, hsz]
  have inv : HeadInv .any l.toArray n (full l n (List.replicate n false)) := by
    rw [← e0]
    exact ⟨by simp, fun j oj _ hl => (by rw [getD_replicate_false] at hl; cases hl), fun t _ ht => (by have h9 : t < l.length := (by simpa using ht); simp [h9])⟩
  refine head_any (C := C) hg hn hM ?_ n (List.replicate n false) a _ (by simp) (by simp) inv hC ?_ (Q1 := fun a' => ∀ w', C w' → ∀ K : Act → World → Prop, (∀ a2 w2, wpQuiet P l.toArray (fun x => x = w2) (fun a3 => Q .normal a3 w2) (l.drop (n + 1)) a2 → K a2 w2) → o.wp P a' w' K Q)
  · intro a' w' hw' hk
    refine ⟨fun h0 => absurd (hT1.symm.trans h0) (by simp), fun i hi => ?_⟩
    rw [hT1] at hi
    have hi : i = n := by simpa using hi
    subst hi
    unfold wpOp
    simp only [hol, Region.wanted, hog, if_true]
    refine .inl (hk w' hw' _ (fun a2 w2 h2 => ?_))
    refine wpAny_of_quiet (C := fun x => x = w2) (Q := fun a3 => Q .normal a3 w2) (fun a3 w3 hw3 hq => by rw [hw3]; exact hq) _ _ _ _ rfl ?_
    exact wpAnyQ_lex hT2 (l.drop (i + 1)) (i + 1) _ a2 (fun j => by rw [List.getElem?_drop, List.getElem?_toArray]) hT3 h2
  · have := wpAnyQ_lex (C := C) (md := .any) hB.1 (l.take n) 0 (Array.replicate (l.take n).toArray.size false) a (by simp) (by simpa using hB.2) h
    have e1 : Array.replicate (l.take n).toArray.size false = (List.replicate n false).toArray := by rw [List.size_toArray, hlt, List.toArray_replicate]
    rw [e1, hlt] at this
    exact this

/-- A call as the loud operation. -/
theorem wp_call {a : Act} {w : World} {K : Act → World → Prop} {o : Oper} {f : Nat} {args : Array Operand} {tys : Array TypeId} (ho : o.op = Op.call { callee := Callee.value (Operand.func f), args := args, argTypes := tys })
    (hen : ∀ ys w, (callFunc f ys).run P w = .ok (.enter f ys) w) (zs : Array Value) (hzs : args.toList.map a.eval = zs.toList) (h : Calls P f zs w fun e w' => ∃ v, e = .returned v ∧ K (a.put o.dst v) w') : o.wp P a w K Q := by
  have hzs : args.map a.eval = zs := by
    rw [← Array.toList_inj, Array.toList_map]
    exact hzs
  subst hzs
  unfold Oper.wp
  simp [execOp, ho, resolve, invoke, go_sem, hen, Oper.upon]
  refine h.mono ?_
  rintro e w' ⟨v, rfl, hk⟩
  exact hk
end
end Loud
end Go.Proofs.YtjpmebfegpmccaaGreat
