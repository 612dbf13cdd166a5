/- A region that draws its order, inside a fence, one operation of which is loud and waits for all ahead of it: those ahead only read (walked once), those behind only move. No program in sight. -/
import Derived.Test.YtlocadmiomglaaaGreatDoorLaterIn
namespace Go.Proofs.YtlocadmiomglaaaGreatDoor
open Go.RowKit

def full (l : List Oper) (n : Nat) (m : List Bool) : Array Bool := (m ++ List.replicate (l.length - n) false).toArray
/-- Whatever order is picked, those ahead of number n come up alone till all of them have come. -/
def reachOk (l : List Oper) (n : Nat) : Nat → List Bool → Bool
  | 0, m => m.all id
  | fuel + 1, m => decide (Region.ready .any l.toArray (full l n m) = Region.ready .any (l.take n).toArray m.toArray) && !(Region.ready .any (l.take n).toArray m.toArray).isEmpty && (Region.ready .any (l.take n).toArray m.toArray).all (fun i => reachOk l n fuel (m.set i true))
def tailOk (l : List Oper) (n : Nat) : Bool :=
  decide (Region.ready .any l.toArray (full l n (List.replicate n true)) = [n]) && Region.noSelect l.toArray && Region.lexFrom .any l.toArray (l.drop (n + 1)).length (n + 1) ((full l n (List.replicate n true)).setIfInBounds n true)
def plainHead (l : List Oper) (n : Nat) : Bool := (l.take n).all (fun o => o.guard.isNone)

section
variable {F : Fence} {r : Nat} {P : Program} {l : List Oper} {C : World → Prop} {Q : Exit → Act → World → Prop}

theorem head_any {n T : Nat} {Q1 : Act → Prop} (hd : noDefer l = true) (hg : plainHead l n = true) (hn : n ≤ l.length)
    (fin : ∀ a w, C w → Q1 a → wpAnyIn F r P .any l.toArray Q T (full l n (List.replicate n true)) a w) :
    ∀ (fuel : Nat) (m : List Bool) (a : Act) (w : World), m.length = n → reachOk l n fuel m = true → C w → wpAnyQIn F r P .any (l.take n).toArray C Q1 fuel m.toArray a → wpAnyIn F r P .any l.toArray Q (fuel + T) (full l n m) a w
  | 0, m, a, w, hl, hc, hw, h => by
    have e : m = List.replicate n true := by
      rw [← hl]
      exact List.eq_replicate_of_mem (fun b hb => by simpa using List.all_eq_true.1 hc b hb)
    rw [Nat.zero_add, e]
    exact fin a w hw h.2
  | fuel + 1, m, a, w, hl, hc, hw, h => by
    simp only [reachOk, Bool.and_eq_true, decide_eq_true_eq, Bool.not_eq_true', List.isEmpty_eq_false_iff] at hc
    obtain ⟨⟨hr, hne⟩, hall⟩ := hc
    rw [Nat.add_right_comm]
    refine ⟨fun h0 => absurd (hr.symm.trans h0) hne, fun i hi => ?_⟩
    rw [hr] at hi
    have hq := h.2 i hi
    have hnx := List.all_eq_true.1 hall i hi
    obtain ⟨hun, oi, hoi, _⟩ := mem_ready.1 hi
    have hoi2 : (l.take n)[i]? = some oi := by rw [← List.getElem?_toArray]; exact hoi
    have hin : i < n := by
      have := (List.getElem?_eq_some_iff.1 hoi2).1
      rw [List.length_take] at this
      omega
    have hol : l.toArray[i]? = some oi := by
      rw [List.getElem?_toArray]
      rw [List.getElem?_take_of_lt hin] at hoi2
      exact hoi2
    have hgd : oi.guard = none := by
      have := List.all_eq_true.1 hg oi (List.mem_of_getElem? hoi2)
      simpa using this
    have hset : (full l n m).setIfInBounds i true = full l n (m.set i true) := by
      unfold full
      rw [List.setIfInBounds_toArray, List.set_append_left _ _ (by omega)]
    unfold qOpIn at hq
    unfold wpOpIn
    simp only [hoi, Region.wanted, hgd, if_true] at hq
    simp only [hol, Region.wanted, hgd, if_true]
    refine wpIn_of_quiet2 (noDefer_spec hd i oi hol) hw (fun a' w' hw' hk => ?_) hq.1 hq.2
    rw [hset]
    refine head_any hd hg hn fin fuel (m.set i true) a' w' (by rw [List.length_set, hl]) hnx hw' ?_
    rw [List.setIfInBounds_toArray] at hk
    exact hk

theorem wpIn_region_loud {id n : Nat} {a : Act} {w : World} {o : Oper} (C : World → Prop) (hd : noDefer l = true) (hg : plainHead l n = true) (ho : l[n]? = some o) (hog : o.guard = none) (hm : P.follows .mixedOrders = true)
    (hB : Region.lexB .any (l.take n).toArray = true) (hM : reachOk l n n (List.replicate n false) = true) (hT : tailOk l n = true) (hC : C w.drew)
    (h : wpQuietIn F r P (l.take n).toArray C (fun a' => ∀ w', C w' → ∀ K : Act → World → Prop, (∀ a2 w2, wpQuietIn F r P l.toArray (fun x => x = w2) (fun a3 => Q .normal a3 w2) (l.drop (n + 1)) a2 → K a2 w2) → o.wpIn F r P a' w' K Q) (l.take n) a) :
    (Code.region id l.toArray true).wpIn F r P Q a w := by
  have hn : n < l.length := (List.getElem?_eq_some_iff.1 ho).1
  have hol : l.toArray[n]? = some o := by rw [List.getElem?_toArray]; exact ho
  simp only [tailOk, Bool.and_eq_true, decide_eq_true_eq] at hT
  obtain ⟨⟨hT1, hT2⟩, hT3⟩ := hT
  simp only [Region.lexB, Bool.and_eq_true] at hB
  refine wpIn_region_any hm ?_
  have hsz : l.toArray.size = n + ((l.drop (n + 1)).length + 1) := by rw [List.length_drop]; simp; omega
  have hlt : (l.take n).length = n := by rw [List.length_take]; omega
  have e0 : Array.replicate l.toArray.size false = full l n (List.replicate n false) := by
    unfold full
    rw [List.replicate_append_replicate, show n + (l.length - n) = l.toArray.size by simp; omega, ← List.toArray_replicate]
  rw [e0, hsz]
  refine head_any (C := C) hd hg (by omega) ?_ n (List.replicate n false) a _ (by simp) hM hC ?_ (Q1 := fun a' => ∀ w', C w' → ∀ K : Act → World → Prop, (∀ a2 w2, wpQuietIn F r P l.toArray (fun x => x = w2) (fun a3 => Q .normal a3 w2) (l.drop (n + 1)) a2 → K a2 w2) → o.wpIn F r P a' w' K Q)
  · intro a' w' hw' hk
    refine ⟨fun h0 => absurd (hT1.symm.trans h0) (by simp), fun i hi => ?_⟩
    rw [hT1] at hi
    have hi : i = n := by simpa using hi
    subst hi
    unfold wpOpIn
    simp only [hol, Region.wanted, hog, if_true]
    refine hk w' hw' _ (fun a2 w2 h2 => ?_)
    refine wpAnyIn_of_q2 (C := fun x => x = w2) (Q := fun a3 => Q .normal a3 w2) (noDefer_spec hd) (fun a3 w3 hw3 hq => by rw [hw3]; exact hq) _ _ _ _ rfl ?_
    exact wpAnyQIn_lex hT2 (l.drop (i + 1)) (i + 1) _ a2 (fun j => by rw [List.getElem?_drop, List.getElem?_toArray]) hT3 h2
  · have := wpAnyQIn_lex (F := F) (n := r) (C := C) (md := .any) hB.1 (l.take n) 0 (Array.replicate (l.take n).toArray.size false) a (by simp) (by simpa using hB.2) h
    have e1 : Array.replicate (l.take n).toArray.size false = (List.replicate n false).toArray := by rw [List.size_toArray, hlt, List.toArray_replicate]
    rw [e1, hlt] at this
    exact this

/-- A call as the loud operation. -/
theorem wpIn_call {a : Act} {w : World} {K : Act → World → Prop} {o : Oper} {f : Nat} {args : Array Operand} {tys : Array TypeId} (ho : o.op = Op.call { callee := Callee.value (Operand.func f), args := args, argTypes := tys }) (hf : F.fn f) (hr : 1 ≤ r)
    (hen : ∀ ys w, (callFunc f ys).run P w = .ok (.enter f ys) w) (zs : Array Value) (hzs : args.toList.map a.eval = zs.toList) (h : CallsIn F (r - 1) P f zs w fun e w' => ∃ v, e = .returned v ∧ K (a.put o.dst v) w') : o.wpIn F r P a w K Q := by
  have hzs : args.map a.eval = zs := by
    rw [← Array.toList_inj, Array.toList_map]
    exact hzs
  subst hzs
  unfold Oper.wpIn
  refine ⟨?_, ?_⟩
  · intro g hg
    simp [Oper.about, ho, resolve, Target.leads, Sem.run_pure, go_sem] at hg
    rw [← hg]
    exact hf
  · rw [Oper.semAt_plain F _ _ (by rw [ho]; intro c hc; cases hc)]
    simp [execOp, ho, resolve, invoke, go_sem, hen, Oper.uponIn]
    refine ⟨fun _ => hr, h.mono ?_⟩
    rintro e w' ⟨v, rfl, hk⟩
    exact hk
end
end Go.Proofs.YtlocadmiomglaaaGreatDoor
