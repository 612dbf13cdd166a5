/- container/heap's up and down over any value of heap.Interface whose Len, Less and Swap meet their contracts: what they leave is a rearrangement, and in order. -/
import Derived.Test.YtjpmebfegpmccaaGreatHeapList
import Derived.WalkKit
import Derived.WalkSpells
import Derived.WalkLawsBesides
import Derived.Deep.LoopGhost
import Derived.Lib.Hide
namespace Go.Proofs.YtjpmebfegpmccaaGreat
open Go.RowKit

/-- A method is called on an interface value: R holds of what it returns. -/
def InvC (P : Program) (it : Value) (name : String) (args : Array Value) (w : World) (R : Value → World → Prop) : Prop :=
  ∃ f args', (invoke (.fn (.method name) #[]) (#[it] ++ args)).run P w = .ok (.enter f args') w ∧ Calls P f args' w fun e w' => ∃ v, e = .returned v ∧ R v w'

theorem InvC.mono {P : Program} {it : Value} {name : String} {args : Array Value} {w : World} {R R' : Value → World → Prop} (h : InvC P it name args w R) (hR : ∀ v w', R v w' → R' v w') : InvC P it name args w R' := by
  obtain ⟨f, xs, h1, h2⟩ := h
  exact ⟨f, xs, h1, h2.mono fun e w' ⟨v, he, hr⟩ => ⟨v, he, hR v w' hr⟩⟩

theorem wpList_invoke {P : Program} {ops : Array Oper} {rest : List Oper} {o : Oper} {a : Act} {w : World} {Q : Exit → Act → World → Prop} (r : Operand) (name : String) (args : Array Operand) (ts : Array TypeId)
    (ho : o.op = .call { callee := .invoke r name, args := args, argTypes := ts }) (hw : Region.wanted o (yielded ops a.tmps) = true)
    (it : Value) (vs : Array Value) (hit : a.eval r = it) (hvs : args.map a.eval = vs) {R : Value → World → Prop} (hI : InvC P it name vs w R)
    (h : ∀ v w', R v w' → wpList P ops Q rest (a.put o.dst v) w') : wpList P ops Q (o :: rest) a w := by
  refine wpList_step fun K hK => ?_
  rw [if_pos hw]
  obtain ⟨f, xs, h1, h2⟩ := hI
  unfold Oper.wp execOp
  simp only [ho, resolve, Sem.run_bind, Sem.run_pure, Result.andThen_ok, hit, hvs, h1]
  simp only [Oper.upon]
  exact h2.mono fun e w' ⟨v, he, hr⟩ => by subst he; exact hK _ _ (h v w' hr)

section
variable {P : Program} {ops : Array Oper} {rest : List Oper} {a : Act} {w : World} {Q : Exit → Act → World → Prop} {it v1 v2 : Value} {name : String} {R : Value → World → Prop}
  {r x1 x2 : Operand} {ts : Array TypeId} {d : Option Tmp} {ty : TypeId} {pos : String} {af : Array Edge} {g : Option (Nat × Bool)}
theorem wpI0 (hI : InvC P it name #[] w R) (hw : Region.wanted ⟨d, .call { callee := .invoke r name, args := #[], argTypes := ts }, ty, pos, af, g⟩ (yielded ops a.tmps) = true) (hit : a.eval r = it)
    (h : ∀ v w', R v w' → wpList P ops Q rest (a.put d v) w') : wpList P ops Q (⟨d, .call { callee := .invoke r name, args := #[], argTypes := ts }, ty, pos, af, g⟩ :: rest) a w :=
  wpList_invoke r name #[] ts rfl hw it #[] hit (by simp) hI h
theorem wpI1 (hI : InvC P it name #[v1] w R) (hw : Region.wanted ⟨d, .call { callee := .invoke r name, args := #[x1], argTypes := ts }, ty, pos, af, g⟩ (yielded ops a.tmps) = true) (hit : a.eval r = it) (h1 : a.eval x1 = v1)
    (h : ∀ v w', R v w' → wpList P ops Q rest (a.put d v) w') : wpList P ops Q (⟨d, .call { callee := .invoke r name, args := #[x1], argTypes := ts }, ty, pos, af, g⟩ :: rest) a w :=
  wpList_invoke r name #[x1] ts rfl hw it #[v1] hit (by simp [h1]) hI h
theorem wpI2 (hI : InvC P it name #[v1, v2] w R) (hw : Region.wanted ⟨d, .call { callee := .invoke r name, args := #[x1, x2], argTypes := ts }, ty, pos, af, g⟩ (yielded ops a.tmps) = true) (hit : a.eval r = it) (h1 : a.eval x1 = v1) (h2 : a.eval x2 = v2)
    (h : ∀ v w', R v w' → wpList P ops Q rest (a.put d v) w') : wpList P ops Q (⟨d, .call { callee := .invoke r name, args := #[x1, x2], argTypes := ts }, ty, pos, af, g⟩ :: rest) a w :=
  wpList_invoke r name #[x1, x2] ts rfl hw it #[v1, v2] hit (by simp [h1, h2]) hI h
end

/-- A heap.Interface value whose Len, Less and Swap mean a list l, wherever I l holds; F: what else may have changed. -/
structure HeapRep (P : Program) (it : Value) {α : Type} [Inhabited α] (lt : α → α → Bool) (I : List α → World → Prop) (F : World → World → Prop) : Prop where
  refl : ∀ w, F w w
  trans : ∀ w1 w2 w3, F w1 w2 → F w2 w3 → F w1 w3
  ord : HL.Ord lt
  small : ∀ l w, I l w → l.length ≤ 1000000
  len : ∀ l w, I l w → InvC P it "Len" #[] w fun v w' => v = .int .i64 l.length ∧ I l w' ∧ F w w'
  less : ∀ l w, I l w → ∀ i j : Int, 0 ≤ i → i < l.length → 0 ≤ j → j < l.length → InvC P it "Less" #[.int .i64 i, .int .i64 j] w fun v w' => v = .bool (lt (HL.el l i.toNat) (HL.el l j.toNat)) ∧ I l w' ∧ F w w'
  swap : ∀ l w, I l w → ∀ i j : Int, 0 ≤ i → i < l.length → 0 ≤ j → j < l.length → InvC P it "Swap" #[.int .i64 i, .int .i64 j] w fun _ w' => I (HL.swp l i.toNat j.toNat) w' ∧ F w w'

/-- What holds of the list as 'up' goes on. -/
def UpRel {α : Type} [Inhabited α] (lt : α → α → Bool) (I : List α → World → Prop) (F : World → World → Prop) (l0 : List α) (w : World) (n : Nat) (j : Nat) (wr : World) : Prop :=
  ∃ l, I l wr ∧ F w wr ∧ l.Perm l0 ∧ HL.UpInv lt l n j ∧ ∀ k, n ≤ k → HL.el l k = HL.el l0 k

theorem UpRel.step {it : Value} {α : Type} [Inhabited α] {lt : α → α → Bool} {I : List α → World → Prop} {F : World → World → Prop} (H : HeapRep Tryz.prog it lt I F) {l0 l : List α} {w w1 w2 : World} {n j : Nat}
    (hn : n ≤ l0.length) (hj : j < n) (h0 : 0 < j) (hF : F w w1) (hp : l.Perm l0) (hu : HL.UpInv lt l n j) (hk : ∀ k, n ≤ k → HL.el l k = HL.el l0 k)
    (hl : lt (HL.el l j) (HL.el l ((j - 1) / 2)) = true) (hI : I (HL.swp l ((j - 1) / 2) j) w2) (hF' : F w1 w2) : UpRel lt I F l0 w n ((j - 1) / 2) w2 := by
  have hl0 := hp.length_eq
  refine ⟨_, hI, H.trans _ _ _ hF hF', (HL.swp_perm _ _ _ (by omega) (by omega)).trans hp, hu.step H.ord (by omega) hj h0 hl, fun k kn => ?_⟩
  rw [HL.el_swp _ _ _ _ (by omega) (by omega), if_neg (by omega), if_neg (by omega)]
  exact hk k kn

set_option maxHeartbeats 400000 in
theorem heap_up {it : Value} {α : Type} [Inhabited α] {lt : α → α → Bool} {I : List α → World → Prop} {F : World → World → Prop} (H : HeapRep Tryz.prog it lt I F)
    (l0 : List α) (w : World) (h0 : I l0 w) (n : Nat) (hn : n ≤ l0.length) (j : Int) (hj0 : 0 ≤ j) (hj : j < n) (hu : HL.UpInv lt l0 n j.toNat) :
    Calls Tryz.prog 65 #[it, .int .i64 j] w fun e w' => e = .returned (.tuple #[]) ∧ ∃ l, I l w' ∧ F w w' ∧ l.Perm l0 ∧ HL.HeapTo lt 0 l n ∧ ∀ k, n ≤ k → HL.el l k = HL.el l0 k := by
  obtain ⟨j, rfl⟩ := Int.eq_ofNat_of_zero_le hj0
  simp only [Int.toNat_natCast] at hu
  have HS := Lib.hid H; clear H
  have hs0 := HS.out.small _ _ h0
  have hst : UpRel lt I F l0 w n j w := ⟨l0, h0, HS.out.refl _, List.Perm.refl _, hu, fun _ _ => rfl⟩
  have HST := Lib.hid hst; clear hst h0 hu
  have hj1 : j < n := by omega
  clear hj
  go_enter Tryz.func65, Tryz.ntmps65
  go_wp2
  go_loopw [1, 4] (fun jv _ wr => ∃ i : Nat, i < n ∧ jv = .int .i64 i ∧ UpRel lt I F l0 w n i wr) (fun jv _ _ => (intOf jv).toNat)
  case atStart => exact ⟨j, hj1, rfl, HST.out⟩
  case round =>
    clear HST hj1 hj0
    obtain ⟨i, hi, rfl, l, hI, hF, hp, hu, hk⟩ := hrel
    have hl0 : l.length ≤ l0.length := Nat.le_of_eq hp.length_eq
    have hl1 : l0.length ≤ l.length := Nat.le_of_eq hp.length_eq.symm
    have HK := Lib.hid hk; clear hk
    have HU := Lib.hid hu; clear hu
    by_cases hi0 : i = 0
    · subst hi0
      go_wp2
      go_end0
      exact ⟨rfl, l, hI, hF, hp, HU.out.done (.inl rfl), HK.out⟩
    · obtain ⟨m, rfl⟩ : ∃ m, i = m + 1 := ⟨i - 1, by omega⟩
      clear hi0
      have e2 : ((m : Int) / 2 == (m : Int) + 1) = false := by rw [beq_eq_false_iff_ne]; omega
      have hb : (m : Int) ≤ 1000000 := by omega
      have hm2 : ((m : Int) / 2).toNat = (m + 1 - 1) / 2 := by omega
      have hL := HS.out.less l wr hI (m + 1) ((m : Int) / 2) (by omega) (by omega) (by omega) (by omega)
      rw [hm2, show ((m : Int) + 1).toNat = m + 1 by omega] at hL
      have HM2 := Lib.hid hm2; clear hm2
      cases hlt : lt (HL.el l (m + 1)) (HL.el l ((m + 1 - 1) / 2)) with
      | false =>
        rw [hlt] at hL
        have HL' := Lib.hid hL; clear hL
        have HLT := Lib.hid hlt; clear hlt
        go_wp2_with ((with_reducible refine wpI2 HL'.out ?_ ?_ ?_ ?_ ?_); rfl; rfl; rfl; rfl; rintro v w1 ⟨rfl, hI1, hF1⟩)
        go_end0
        exact ⟨rfl, l, hI1, HS.out.trans _ _ _ hF hF1, hp, HU.out.done (.inr HLT.out), HK.out⟩
      | true =>
        rw [hlt] at hL
        have HL' := Lib.hid hL; clear hL
        have HLT := Lib.hid hlt; clear hlt
        have HSW := Lib.hid (fun w1 (h : I l w1) => HS.out.swap l w1 h ((m : Int) / 2) (m + 1) (by omega) (by omega) (by omega) (by omega))
        go_wp2_with (first | ((with_reducible refine wpI2 HL'.out ?_ ?_ ?_ ?_ ?_); rfl; rfl; rfl; rfl; rintro v w1 ⟨rfl, hI1, hF1⟩) | ((with_reducible refine wpI2 (HSW.out _ hI1) ?_ ?_ ?_ ?_ ?_); rfl; rfl; rfl; rfl; rintro v w2 ⟨hI2, hF2⟩))
        rw [HM2.out, show ((m : Int) + 1).toNat = m + 1 by omega] at hI2
        go_roundw
        case rel => exact ⟨(m + 1 - 1) / 2, by omega, by rw [show ((m : Int) / 2) = (((m + 1 - 1) / 2 : Nat) : Int) by omega], UpRel.step HS.out hn hi (by omega) (HS.out.trans _ _ _ hF hF1) hp HU.out HK.out HLT.out hI2 hF2⟩
        case measure => simp [intOf]; omega
end Go.Proofs.YtjpmebfegpmccaaGreat
