/- Merged texts: HeapC HeapD HeapE HeapI Nums NumsH Pile PileP PileO. -/
import Derived.Test.YtedcpckocedcoaaGreatHeapList
import Derived.WalkKit
import Derived.WalkSpells
import Derived.WalkLawsBesides
import Derived.Deep.LoopGhost
import Derived.Lib.Hide
import Derived.Test.YtedcpckocedcoaaGreatFr
import Derived.Test.YtedcpckocedcoaaGreatInts
import Derived.Deep.QuietTactic
import Derived.BigQuiet
import Derived.Deep.RegionLaw
import Derived.BigRegion
import Derived.Deep.AppendLies
/- container/heap's up and down over any value of heap.Interface whose Len, Less and Swap meet their contracts: what they leave is a rearrangement, and in order. -/
namespace Go.Proofs.YtedcpckocedcoaaGreat
open Go.RowKit

/-- A method is called on an interface value: R holds of what it returns. -/
def InvC (P : Program) (it : Value) (name : String) (args : Array Value) (w : World) (R : Value → World → Prop) : Prop :=
  ∃ f args', (invoke (.fn (.method name) #[]) (#[it] ++ args)).run P w = .ok (.enter f args') w ∧ Calls P f args' w fun e w' => ∃ v, e = .returned v ∧ R v w'

theorem InvC.mono {P : Program} {it : Value} {name : String} {args : Array Value} {w : World} {R R' : Value → World → Prop} (h : InvC P it name args w R) (hR : ∀ v w', R v w' → R' v w') : InvC P it name args w R' := by
  obtain ⟨f, xs, h1, h2⟩ := h
  exact ⟨f, xs, h1, h2.mono fun e w' ⟨v, he, hr⟩ => ⟨v, he, hR v w' hr⟩⟩

theorem wpList_invoke {P : Program} {ops : Array Oper} {rest : List Oper} {o : Oper} {a : Act} {w : World} {Q : Exit → Act → World → Prop} (r : Operand) (name : String) (args : Array Operand) (ts : Array TypeId)
    (ho : o.op = .call { callee := .invoke r name, args := args, argTypes := ts }) (hw : Region.wanted o (yielded ops a.tmps) = true)
    (it : Value) (vs : Array Value) (hit : a.eval r = it) (hvs : args.map a.eval = vs) {R : Value → World → Prop} (hI : InvC P it name vs w R)
    (h : ∀ v w', R v w' → wpList P ops Q rest (a.put o.dst v) w') : wpList P ops Q (o :: rest) a w := by
  refine wpList_step fun K hK => ?_
  rw [if_pos hw]
  obtain ⟨f, xs, h1, h2⟩ := hI
  unfold Oper.wp execOp
  simp only [ho, resolve, Sem.run_bind, Sem.run_pure, Result.andThen_ok, hit, hvs, h1]
  simp only [Oper.upon]
  exact h2.mono fun e w' ⟨v, he, hr⟩ => by subst he; exact hK _ _ (h v w' hr)

section
variable {P : Program} {ops : Array Oper} {rest : List Oper} {a : Act} {w : World} {Q : Exit → Act → World → Prop} {it v1 v2 : Value} {name : String} {R : Value → World → Prop}
  {r x1 x2 : Operand} {ts : Array TypeId} {d : Option Tmp} {ty : TypeId} {pos : String} {af : Array Edge} {g : Option (Nat × Bool)}
theorem wpI0 (hI : InvC P it name #[] w R) (hw : Region.wanted ⟨d, .call { callee := .invoke r name, args := #[], argTypes := ts }, ty, pos, af, g⟩ (yielded ops a.tmps) = true) (hit : a.eval r = it)
    (h : ∀ v w', R v w' → wpList P ops Q rest (a.put d v) w') : wpList P ops Q (⟨d, .call { callee := .invoke r name, args := #[], argTypes := ts }, ty, pos, af, g⟩ :: rest) a w :=
  wpList_invoke r name #[] ts rfl hw it #[] hit (by simp) hI h
theorem wpI1 (hI : InvC P it name #[v1] w R) (hw : Region.wanted ⟨d, .call { callee := .invoke r name, args := #[x1], argTypes := ts }, ty, pos, af, g⟩ (yielded ops a.tmps) = true) (hit : a.eval r = it) (h1 : a.eval x1 = v1)
    (h : ∀ v w', R v w' → wpList P ops Q rest (a.put d v) w') : wpList P ops Q (⟨d, .call { callee := .invoke r name, args := #[x1], argTypes := ts }, ty, pos, af, g⟩ :: rest) a w :=
  wpList_invoke r name #[x1] ts rfl hw it #[v1] hit (by simp [h1]) hI h
theorem wpI2 (hI : InvC P it name #[v1, v2] w R) (hw : Region.wanted ⟨d, .call { callee := .invoke r name, args := #[x1, x2], argTypes := ts }, ty, pos, af, g⟩ (yielded ops a.tmps) = true) (hit : a.eval r = it) (h1 : a.eval x1 = v1) (h2 : a.eval x2 = v2)
    (h : ∀ v w', R v w' → wpList P ops Q rest (a.put d v) w') : wpList P ops Q (⟨d, .call { callee := .invoke r name, args := #[x1, x2], argTypes := ts }, ty, pos, af, g⟩ :: rest) a w :=
  wpList_invoke r name #[x1, x2] ts rfl hw it #[v1, v2] hit (by simp [h1, h2]) hI h
end

/-- A heap.Interface value whose Len, Less and Swap mean a list l, wherever I l holds; F: what else may have changed. -/
structure HeapRep (P : Program) (it : Value) {α : Type} [Inhabited α] (lt : α → α → Bool) (I : List α → World → Prop) (F : World → World → Prop) : Prop where
  refl : ∀ w, F w w
  trans : ∀ w1 w2 w3, F w1 w2 → F w2 w3 → F w1 w3
  ord : HL.Ord lt
  small : ∀ l w, I l w → l.length ≤ 1000000
  len : ∀ l w, I l w → InvC P it "Len" #[] w fun v w' => v = .int .i64 l.length ∧ I l w' ∧ F w w'
  less : ∀ l w, I l w → ∀ i j : Int, 0 ≤ i → i < l.length → 0 ≤ j → j < l.length → InvC P it "Less" #[.int .i64 i, .int .i64 j] w fun v w' => v = .bool (lt (HL.el l i.toNat) (HL.el l j.toNat)) ∧ I l w' ∧ F w w'
  swap : ∀ l w, I l w → ∀ i j : Int, 0 ≤ i → i < l.length → 0 ≤ j → j < l.length → InvC P it "Swap" #[.int .i64 i, .int .i64 j] w fun _ w' => I (HL.swp l i.toNat j.toNat) w' ∧ F w w'

/-- What holds of the list as 'up' goes on. -/
def UpRel {α : Type} [Inhabited α] (lt : α → α → Bool) (I : List α → World → Prop) (F : World → World → Prop) (l0 : List α) (w : World) (n : Nat) (j : Nat) (wr : World) : Prop :=
  ∃ l, I l wr ∧ F w wr ∧ l.Perm l0 ∧ HL.UpInv lt l n j ∧ ∀ k, n ≤ k → HL.el l k = HL.el l0 k

theorem UpRel.step {it : Value} {α : Type} [Inhabited α] {lt : α → α → Bool} {I : List α → World → Prop} {F : World → World → Prop} (H : HeapRep Tryz.prog it lt I F) {l0 l : List α} {w w1 w2 : World} {n j : Nat}
    (hn : n ≤ l0.length) (hj : j < n) (h0 : 0 < j) (hF : F w w1) (hp : l.Perm l0) (hu : HL.UpInv lt l n j) (hk : ∀ k, n ≤ k → HL.el l k = HL.el l0 k)
    (hl : lt (HL.el l j) (HL.el l ((j - 1) / 2)) = true) (hI : I (HL.swp l ((j - 1) / 2) j) w2) (hF' : F w1 w2) : UpRel lt I F l0 w n ((j - 1) / 2) w2 := by
  have hl0 := hp.length_eq
  refine ⟨_, hI, H.trans _ _ _ hF hF', (HL.swp_perm _ _ _ (by omega) (by omega)).trans hp, hu.step H.ord (by omega) hj h0 hl, fun k kn => ?_⟩
  rw [HL.el_swp _ _ _ _ (by omega) (by omega), if_neg (by omega), if_neg (by omega)]
  exact hk k kn

set_option maxHeartbeats 400000 in
theorem heap_up {it : Value} {α : Type} [Inhabited α] {lt : α → α → Bool} {I : List α → World → Prop} {F : World → World → Prop} (H : HeapRep Tryz.prog it lt I F)
    (l0 : List α) (w : World) (h0 : I l0 w) (n : Nat) (hn : n ≤ l0.length) (j : Int) (hj0 : 0 ≤ j) (hj : j < n) (hu : HL.UpInv lt l0 n j.toNat) :
    Calls Tryz.prog 136 #[it, .int .i64 j] w fun e w' => e = .returned (.tuple #[]) ∧ ∃ l, I l w' ∧ F w w' ∧ l.Perm l0 ∧ HL.HeapTo lt 0 l n ∧ ∀ k, n ≤ k → HL.el l k = HL.el l0 k := by
  obtain ⟨j, rfl⟩ := Int.eq_ofNat_of_zero_le hj0
  simp only [Int.toNat_natCast] at hu
  have HS := Lib.hid H; clear H
  have hs0 := HS.out.small _ _ h0
  have hst : UpRel lt I F l0 w n j w := ⟨l0, h0, HS.out.refl _, List.Perm.refl _, hu, fun _ _ => rfl⟩
  have HST := Lib.hid hst; clear hst h0 hu
  have hj1 : j < n := by omega
  clear hj
  go_enter Tryz.func136, Tryz.ntmps136
  go_wp2
  go_loopw [1, 4] (fun jv _ wr => ∃ i : Nat, i < n ∧ jv = .int .i64 i ∧ UpRel lt I F l0 w n i wr) (fun jv _ _ => (intOf jv).toNat)
  case atStart => exact ⟨j, hj1, rfl, HST.out⟩
  case round =>
    clear HST hj1 hj0
    obtain ⟨i, hi, rfl, l, hI, hF, hp, hu, hk⟩ := hrel
    have hl0 : l.length ≤ l0.length := Nat.le_of_eq hp.length_eq
    have hl1 : l0.length ≤ l.length := Nat.le_of_eq hp.length_eq.symm
    have HK := Lib.hid hk; clear hk
    have HU := Lib.hid hu; clear hu
    by_cases hi0 : i = 0
    · subst hi0
      go_wp2
      go_end0
      exact ⟨rfl, l, hI, hF, hp, HU.out.done (.inl rfl), HK.out⟩
    · obtain ⟨m, rfl⟩ : ∃ m, i = m + 1 := ⟨i - 1, by omega⟩
      clear hi0
      have e2 : ((m : Int) / 2 == (m : Int) + 1) = false := by rw [beq_eq_false_iff_ne]; omega
      have hb : (m : Int) ≤ 1000000 := by omega
      have hm2 : ((m : Int) / 2).toNat = (m + 1 - 1) / 2 := by omega
      have hL := HS.out.less l wr hI (m + 1) ((m : Int) / 2) (by omega) (by omega) (by omega) (by omega)
      rw [hm2, show ((m : Int) + 1).toNat = m + 1 by omega] at hL
      have HM2 := Lib.hid hm2; clear hm2
      cases hlt : lt (HL.el l (m + 1)) (HL.el l ((m + 1 - 1) / 2)) with
      | false =>
        rw [hlt] at hL
        have HL' := Lib.hid hL; clear hL
        have HLT := Lib.hid hlt; clear hlt
        go_wp2_with ((with_reducible refine wpI2 HL'.out ?_ ?_ ?_ ?_ ?_); rfl; rfl; rfl; rfl; rintro v w1 ⟨rfl, hI1, hF1⟩)
        go_end0
        exact ⟨rfl, l, hI1, HS.out.trans _ _ _ hF hF1, hp, HU.out.done (.inr HLT.out), HK.out⟩
      | true =>
        rw [hlt] at hL
        have HL' := Lib.hid hL; clear hL
        have HLT := Lib.hid hlt; clear hlt
        have HSW := Lib.hid (fun w1 (h : I l w1) => HS.out.swap l w1 h ((m : Int) / 2) (m + 1) (by omega) (by omega) (by omega) (by omega))
        go_wp2_with (first | ((with_reducible refine wpI2 HL'.out ?_ ?_ ?_ ?_ ?_); rfl; rfl; rfl; rfl; rintro v w1 ⟨rfl, hI1, hF1⟩) | ((with_reducible refine wpI2 (HSW.out _ hI1) ?_ ?_ ?_ ?_ ?_); rfl; rfl; rfl; rfl; rintro v w2 ⟨hI2, hF2⟩))
        rw [HM2.out, show ((m : Int) + 1).toNat = m + 1 by omega] at hI2
        go_roundw
        case rel => exact ⟨(m + 1 - 1) / 2, by omega, by rw [show ((m : Int) / 2) = (((m + 1 - 1) / 2 : Nat) : Int) by omega], UpRel.step HS.out hn hi (by omega) (HS.out.trans _ _ _ hF hF1) hp HU.out HK.out HLT.out hI2 hF2⟩
        case measure => simp [intOf]; omega
end Go.Proofs.YtedcpckocedcoaaGreat

/- container/heap's down over any value of heap.Interface whose Len, Less and Swap meet their contracts. -/
namespace Go.Proofs.YtedcpckocedcoaaGreat
open Go.RowKit

/-- What holds of the list as 'down' goes on. -/
def DownRel {α : Type} [Inhabited α] (lt : α → α → Bool) (I : List α → World → Prop) (F : World → World → Prop) (l0 : List α) (w : World) (lo n i0 i : Nat) (wr : World) : Prop :=
  ∃ l, I l wr ∧ F w wr ∧ l.Perm l0 ∧ HL.DownInv lt lo i0 l n i ∧ (∀ k, n ≤ k → HL.el l k = HL.el l0 k) ∧ (i = i0 → l = l0)

/-- What 'down' leaves. -/
def DownPost {α : Type} [Inhabited α] (lt : α → α → Bool) (I : List α → World → Prop) (F : World → World → Prop) (l0 : List α) (w : World) (lo n i0 : Nat) (e : Ending) (w' : World) : Prop :=
  ∃ l b, e = .returned (.bool b) ∧ I l w' ∧ F w w' ∧ l.Perm l0 ∧ (∀ k, n ≤ k → HL.el l k = HL.el l0 k) ∧ (b = false → l = l0 ∧ ∀ k, 0 < k → k < n → lo ≤ (k - 1) / 2 → k ≠ i0 → HL.okAt lt l k) ∧ (b = true → HL.HeapTo lt lo l n)

theorem DownRel.step {it : Value} {α : Type} [Inhabited α] {lt : α → α → Bool} {I : List α → World → Prop} {F : World → World → Prop} (H : HeapRep Tryz.prog it lt I F) {l0 l : List α} {w w1 w2 : World} {lo n i0 i c : Nat}
    (hn : n ≤ l0.length) (hi : i0 ≤ i) (hF : F w w1) (hp : l.Perm l0) (hd : HL.DownInv lt lo i0 l n i) (hk : ∀ k, n ≤ k → HL.el l k = HL.el l0 k) (hc : 2 * i + 1 < n) (hcc : HL.kid lt l n i = c)
    (hl : lt (HL.el l c) (HL.el l i) = true) (hI : I (HL.swp l i c) w2) (hF' : F w1 w2) : i0 ≤ c ∧ i < c ∧ c < n ∧ DownRel lt I F l0 w lo n i0 c w2 := by
  have hl0 := hp.length_eq
  have hcn : c < n ∧ i < c := by subst hcc; unfold HL.kid; split <;> omega
  refine ⟨by omega, hcn.2, hcn.1, _, hI, H.trans _ _ _ hF hF', (HL.swp_perm _ _ _ (by omega) (by omega)).trans hp, ?_, fun k kn => ?_, fun e => by omega⟩
  · subst hcc
    exact hd.step H.ord (by omega) hi hc hl
  · rw [HL.el_swp _ _ _ _ (by omega) (by omega), if_neg (by omega), if_neg (by omega)]
    exact hk k kn

theorem DownPost.mk {it : Value} {α : Type} [Inhabited α] {lt : α → α → Bool} {I : List α → World → Prop} {F : World → World → Prop} (H : HeapRep Tryz.prog it lt I F) {l0 l : List α} {w w1 w2 : World} {lo n i0 i : Nat}
    (hi : i0 ≤ i) (hF : F w w1) (hp : l.Perm l0) (hd : HL.DownInv lt lo i0 l n i) (hk : ∀ k, n ≤ k → HL.el l k = HL.el l0 k) (he : i = i0 → l = l0) (hI : I l w2) (hF' : F w1 w2)
    (hc : n ≤ 2 * i + 1 ∨ lt (HL.el l (HL.kid lt l n i)) (HL.el l i) = false) : DownPost lt I F l0 w lo n i0 (.returned (.bool (decide (i0 < i)))) w2 := by
  have hdone := hd.done H.ord hc
  refine ⟨l, _, rfl, hI, H.trans _ _ _ hF hF', hp, hk, fun hb => ?_, fun hb => ?_⟩
  · have : i = i0 := by simp at hb; omega
    exact ⟨he this, fun k k0 kn kl ki => hdone k k0 kn kl (.inl ki)⟩
  · have : i0 < i := by simp at hb; omega
    exact fun k k0 kn kl => hdone k k0 kn kl (.inr this)

set_option maxHeartbeats 1000000 in
theorem heap_down {it : Value} {α : Type} [Inhabited α] {lt : α → α → Bool} {I : List α → World → Prop} {F : World → World → Prop} (H : HeapRep Tryz.prog it lt I F)
    (l0 : List α) (w : World) (h0 : I l0 w) (lo : Nat) (n i0 : Int) (hn0 : 0 ≤ n) (hn : n ≤ l0.length) (hi0 : 0 ≤ i0) (hd : HL.DownInv lt lo i0.toNat l0 n.toNat i0.toNat) (hib : i0 ≤ 1000000) :
    Calls Tryz.prog 135 #[it, .int .i64 i0, .int .i64 n] w (DownPost lt I F l0 w lo n.toNat i0.toNat) := by
  obtain ⟨i0, rfl⟩ := Int.eq_ofNat_of_zero_le hi0
  obtain ⟨n, rfl⟩ := Int.eq_ofNat_of_zero_le hn0
  simp only [Int.toNat_natCast] at hd ⊢
  have HS := Lib.hid H; clear H
  have hs0 := HS.out.small _ _ h0
  have hst : DownRel lt I F l0 w lo n i0 i0 w := ⟨l0, h0, HS.out.refl _, List.Perm.refl _, hd, fun _ _ => rfl, fun _ => rfl⟩
  have HST := Lib.hid hst; clear hst h0 hd
  have hn1 : n ≤ l0.length := by omega
  clear hn
  go_enter Tryz.func135, Tryz.ntmps135
  go_wp2
  go_loopw [7, 8, 9, 10] (fun iv _ _ _ wr => ∃ i : Nat, i0 ≤ i ∧ (i = i0 ∨ i < n) ∧ iv = .int .i64 i ∧ DownRel lt I F l0 w lo n i0 i wr) (fun iv _ _ _ _ => n - (intOf iv).toNat)
  case atStart => exact ⟨i0, Nat.le_refl _, .inl rfl, rfl, HST.out⟩
  case round =>
    clear HST hi0 hn0
    obtain ⟨i, hi, hin, rfl, l, hI, hF, hp, hd, hk, he⟩ := hrel
    have hl0 : l.length ≤ l0.length := Nat.le_of_eq hp.length_eq
    have hl1 : l0.length ≤ l.length := Nat.le_of_eq hp.length_eq.symm
    have HK := Lib.hid hk; clear hk
    have HD := Lib.hid hd; clear hd
    have HE := Lib.hid he; clear he
    have hib2 : i ≤ 1000000 := by omega
    by_cases hc : 2 * i + 1 < n
    · have hin' : i < n := by omega
      clear hin
      have HL1 := Lib.hid (fun (h2 : 2 * i + 2 < n) => HS.out.less l wr hI (2 * (i : Int) + 1 + 1) (2 * (i : Int) + 1) (by omega) (by omega) (by omega) (by omega))
      have HL2 := Lib.hid (fun w1 (h : I l w1) (c : Int) (hc0 : 0 ≤ c) (hcn : c < n) => HS.out.less l w1 h c i (by omega) (by omega) (by omega) (by omega))
      have HSW := Lib.hid (fun w1 (h : I l w1) (c : Int) (hc0 : 0 ≤ c) (hcn : c < n) => HS.out.swap l w1 h i c (by omega) (by omega) (by omega) (by omega))
      have e1 : (2 * (i : Int) + 1 + 1).toNat = 2 * i + 2 := by omega
      have e2 : (2 * (i : Int) + 1).toNat = 2 * i + 1 := by omega
      have E1 := Lib.hid e1; have E2 := Lib.hid e2; clear e1 e2
      by_cases h2 : 2 * i + 2 < n
      · have hL := HL1.out h2
        clear HL1
        rw [E1.out, E2.out] at hL
        cases h1 : lt (HL.el l (2 * i + 2)) (HL.el l (2 * i + 1)) with
        | true =>
          rw [h1] at hL
          have HL1 := Lib.hid hL; clear hL
          have HC := Lib.hid (show HL.kid lt l n i = 2 * i + 2 by unfold HL.kid; rw [if_pos ⟨h2, h1⟩])
          clear h1
          have HLB := Lib.hid (fun w1 (h : I l w1) => HL2.out w1 h (2 * (i : Int) + 1 + 1) (by omega) (by omega))
          have HSB := Lib.hid (fun w1 (h : I l w1) => HSW.out w1 h (2 * (i : Int) + 1 + 1) (by omega) (by omega))
          clear HL2 HSW
          rw [E1.out, Int.toNat_natCast] at HLB HSB
          cases h3 : lt (HL.el l (2 * i + 2)) (HL.el l i) with
          | false =>
            rw [h3] at HLB
            have H3 := Lib.hid h3; clear h3
            go_wp2_with (first | ((with_reducible refine wpI2 HL1.out ?_ ?_ ?_ ?_ ?_); rfl; rfl; rfl; rfl; rintro v w1 ⟨rfl, hI1, hF1⟩) | ((with_reducible refine wpI2 (HLB.out _ hI1) ?_ ?_ ?_ ?_ ?_); rfl; rfl; rfl; rfl; rintro v w2 ⟨rfl, hI2, hF2⟩))
            go_ret
            exact DownPost.mk HS.out hi hF hp HD.out HK.out HE.out hI2 (HS.out.trans _ _ _ hF1 hF2) (.inr (by rw [HC.out]; exact H3.out))
          | true =>
            rw [h3] at HLB
            have H3 := Lib.hid h3; clear h3
            go_wp2_with (first | ((with_reducible refine wpI2 HL1.out ?_ ?_ ?_ ?_ ?_); rfl; rfl; rfl; rfl; rintro v w1 ⟨rfl, hI1, hF1⟩) | ((with_reducible refine wpI2 (HLB.out _ hI1) ?_ ?_ ?_ ?_ ?_); rfl; rfl; rfl; rfl; rintro v w2 ⟨rfl, hI2, hF2⟩) | ((with_reducible refine wpI2 (HSB.out _ hI2) ?_ ?_ ?_ ?_ ?_); rfl; rfl; rfl; rfl; rintro v w3 ⟨hI3, hF3⟩))
            obtain ⟨q1, q2, q3, q4⟩ := DownRel.step HS.out hn1 hi (HS.out.trans _ _ _ hF (HS.out.trans _ _ _ hF1 hF2)) hp HD.out HK.out hc HC.out H3.out hI3 hF3
            go_roundw
            case rel => exact ⟨2 * i + 2, q1, .inr q3, by go_num, q4⟩
            case measure => simp [intOf]; omega
        | false =>
          rw [h1] at hL
          have HL1 := Lib.hid hL; clear hL
          have HC := Lib.hid (show HL.kid lt l n i = 2 * i + 1 by unfold HL.kid; rw [if_neg (fun h => by rw [h1] at h; cases h.2)])
          clear h1
          have HLB := Lib.hid (fun w1 (h : I l w1) => HL2.out w1 h (2 * (i : Int) + 1) (by omega) (by omega))
          have HSB := Lib.hid (fun w1 (h : I l w1) => HSW.out w1 h (2 * (i : Int) + 1) (by omega) (by omega))
          clear HL2 HSW
          rw [E2.out, Int.toNat_natCast] at HLB HSB
          cases h3 : lt (HL.el l (2 * i + 1)) (HL.el l i) with
          | false =>
            rw [h3] at HLB
            have H3 := Lib.hid h3; clear h3
            go_wp2_with (first | ((with_reducible refine wpI2 HL1.out ?_ ?_ ?_ ?_ ?_); rfl; rfl; rfl; rfl; rintro v w1 ⟨rfl, hI1, hF1⟩) | ((with_reducible refine wpI2 (HLB.out _ hI1) ?_ ?_ ?_ ?_ ?_); rfl; rfl; rfl; rfl; rintro v w2 ⟨rfl, hI2, hF2⟩))
            go_ret
            exact DownPost.mk HS.out hi hF hp HD.out HK.out HE.out hI2 (HS.out.trans _ _ _ hF1 hF2) (.inr (by rw [HC.out]; exact H3.out))
          | true =>
            rw [h3] at HLB
            have H3 := Lib.hid h3; clear h3
            go_wp2_with (first | ((with_reducible refine wpI2 HL1.out ?_ ?_ ?_ ?_ ?_); rfl; rfl; rfl; rfl; rintro v w1 ⟨rfl, hI1, hF1⟩) | ((with_reducible refine wpI2 (HLB.out _ hI1) ?_ ?_ ?_ ?_ ?_); rfl; rfl; rfl; rfl; rintro v w2 ⟨rfl, hI2, hF2⟩) | ((with_reducible refine wpI2 (HSB.out _ hI2) ?_ ?_ ?_ ?_ ?_); rfl; rfl; rfl; rfl; rintro v w3 ⟨hI3, hF3⟩))
            obtain ⟨q1, q2, q3, q4⟩ := DownRel.step HS.out hn1 hi (HS.out.trans _ _ _ hF (HS.out.trans _ _ _ hF1 hF2)) hp HD.out HK.out hc HC.out H3.out hI3 hF3
            go_roundw
            case rel => exact ⟨2 * i + 1, q1, .inr q3, by go_num, q4⟩
            case measure => simp [intOf]; omega
      · have HC := Lib.hid (show HL.kid lt l n i = 2 * i + 1 by unfold HL.kid; rw [if_neg (fun h => h2 h.1)])
        clear HL1
        have HLB := Lib.hid (fun w1 (h : I l w1) => HL2.out w1 h (2 * (i : Int) + 1) (by omega) (by omega))
        have HSB := Lib.hid (fun w1 (h : I l w1) => HSW.out w1 h (2 * (i : Int) + 1) (by omega) (by omega))
        clear HL2 HSW
        rw [E2.out, Int.toNat_natCast] at HLB HSB
        cases h3 : lt (HL.el l (2 * i + 1)) (HL.el l i) with
        | false =>
          rw [h3] at HLB
          have H3 := Lib.hid h3; clear h3
          go_wp2_with (first | ((with_reducible refine wpI2 (HLB.out _ hI) ?_ ?_ ?_ ?_ ?_); rfl; rfl; rfl; rfl; rintro v w2 ⟨rfl, hI2, hF2⟩))
          go_ret
          exact DownPost.mk HS.out hi hF hp HD.out HK.out HE.out hI2 hF2 (.inr (by rw [HC.out]; exact H3.out))
        | true =>
          rw [h3] at HLB
          have H3 := Lib.hid h3; clear h3
          go_wp2_with (first | ((with_reducible refine wpI2 (HLB.out _ hI) ?_ ?_ ?_ ?_ ?_); rfl; rfl; rfl; rfl; rintro v w2 ⟨rfl, hI2, hF2⟩) | ((with_reducible refine wpI2 (HSB.out _ hI2) ?_ ?_ ?_ ?_ ?_); rfl; rfl; rfl; rfl; rintro v w3 ⟨hI3, hF3⟩))
          obtain ⟨q1, q2, q3, q4⟩ := DownRel.step HS.out hn1 hi (HS.out.trans _ _ _ hF hF2) hp HD.out HK.out hc HC.out H3.out hI3 hF3
          go_roundw
          case rel => exact ⟨2 * i + 1, q1, .inr q3, by go_num, q4⟩
          case measure => simp [intOf]; omega
    · go_wp2
      go_ret
      exact DownPost.mk HS.out hi hF hp HD.out HK.out HE.out hI (HS.out.refl _) (.inl (by omega))
end Go.Proofs.YtedcpckocedcoaaGreat

/- container/heap's Push and Pop over any value of heap.Interface whose methods meet their contracts. -/
namespace Go.Proofs.YtedcpckocedcoaaGreat
open Go.RowKit

set_option maxHeartbeats 400000 in
theorem heap_push {α : Type} [Inhabited α] {lt : α → α → Bool} {it xv : Value} {w : World} {K : World → Prop}
    (hP : InvC Tryz.prog it "Push" #[xv] w fun _ w1 => ∃ I F l x, HeapRep Tryz.prog it lt I F ∧ I (l ++ [x]) w1 ∧ HL.IsHeap lt l ∧ ∀ l' w2, I l' w2 → F w1 w2 → l'.Perm (l ++ [x]) → HL.IsHeap lt l' → K w2) :
    Calls Tryz.prog 104 #[it, xv] w fun e w' => e = .returned (.tuple #[]) ∧ K w' := by
  have HP := Lib.hid hP; clear hP
  go_enter Tryz.func104, Tryz.ntmps104
  go_wp2_with (first
    | ((with_reducible refine wpI1 HP.out ?_ ?_ ?_ ?_); rfl; rfl; rfl; rintro v w1 ⟨I, F, l, x, H, hI, hh, hK⟩; have HH := Lib.hid H; clear H; have HK := Lib.hid hK; clear hK; have HLen := Lib.hid (HH.out.len _ _ hI); have hsm := HH.out.small _ _ hI; have HU := Lib.hid (HL.upInv_push x hh); rw [List.length_append, List.length_singleton] at HLen hsm; clear HP)
    | ((with_reducible refine wpI0 HLen.out ?_ ?_ ?_); rfl; rfl; rintro v w2 ⟨rfl, hI2, hF2⟩)
    | (go_at_call 136; (with_reducible refine (heap_up HH.out _ _ hI2 (l.length + 1) ?_ _ ?_ ?_ ?_).mono ?_); simp; omega; omega; rw [Int.toNat_natCast]; exact HU.out; rintro e w3 ⟨rfl, l', hI3, hF3, hp, hh3, hk3⟩))
  go_end0
  exact ⟨rfl, HK.out _ _ hI3 (HH.out.trans _ _ _ hF2 hF3) hp (by unfold HL.IsHeap; rw [hp.length_eq]; simpa using hh3)⟩

theorem pop_end {α : Type} [Inhabited α] {lt : α → α → Bool} {l0 l' : List α} {n i : Nat} (hl : l0.length = n + 1) (hi : i < n + 1) (hp : l'.Perm (HL.swp l0 i n)) (hh : HL.HeapTo lt 0 l' n)
    (hk : HL.el l' n = HL.el (HL.swp l0 i n) n) : l' = l'.take n ++ [HL.el l0 i] ∧ (HL.el l0 i :: l'.take n).Perm l0 ∧ HL.IsHeap lt (l'.take n) := by
  have hlen : l'.length = n + 1 := by rw [hp.length_eq, HL.swp_length, hl]
  have e : HL.el l' n = HL.el l0 i := by rw [hk, HL.el_swp _ _ _ _ (by omega) (by omega), if_pos rfl]
  have e1 := HL.split_last hlen
  rw [e] at e1
  refine ⟨e1, ?_, HL.isHeap_take (by omega) hh⟩
  have p1 : (HL.el l0 i :: l'.take n).Perm (l'.take n ++ [HL.el l0 i]) := (List.perm_append_singleton _ _).symm
  exact p1.trans ((List.Perm.of_eq e1.symm).trans (hp.trans (HL.swp_perm _ _ _ (by omega) (by omega))))

set_option maxHeartbeats 400000 in
theorem heap_pop {α : Type} [Inhabited α] {lt : α → α → Bool} {it : Value} {I : List α → World → Prop} {F : World → World → Prop} (H : HeapRep Tryz.prog it lt I F) {w : World} {K : Value → World → Prop} (l0 : List α)
    (h0 : I l0 w) (hne : 0 < l0.length) (hh : HL.IsHeap lt l0)
    (hP : ∀ l w1, I (l ++ [HL.el l0 0]) w1 → F w w1 → (HL.el l0 0 :: l).Perm l0 → HL.IsHeap lt l → InvC Tryz.prog it "Pop" #[] w1 K) :
    Calls Tryz.prog 103 #[it] w fun e w' => ∃ v, e = .returned v ∧ K v w' := by
  have HP := Lib.hid hP; clear hP
  have HH := Lib.hid H; clear H
  have hsm := HH.out.small _ _ h0
  obtain ⟨n, hn⟩ : ∃ n, l0.length = n + 1 := ⟨l0.length - 1, by omega⟩
  have HLen := Lib.hid (HH.out.len _ _ h0)
  rw [hn] at HLen hsm
  have HN := Lib.hid hn
  have HSW := Lib.hid (fun w1 (h : I l0 w1) => HH.out.swap l0 w1 h 0 n (by omega) (by omega) (by omega) (by omega))
  have HD : Hid (HL.DownInv lt 0 0 (HL.swp l0 0 n) n 0) := by
    by_cases h : 0 < n
    · exact HL.downInv_pop hn h HH.out.ord hh
    · exact ⟨fun k k0 kn => by omega, fun k k0 kn => by omega⟩
  have hls : n ≤ (HL.swp l0 0 n).length := by rw [HL.swp_length]; omega
  clear hn hne hh
  rw [Int.toNat_natCast, Int.toNat_zero] at HSW
  go_enter Tryz.func103, Tryz.ntmps103
  go_wp2_with (first
    | ((with_reducible refine wpI0 HLen.out ?_ ?_ ?_); rfl; rfl; rintro v w1 ⟨rfl, hI1, hF1⟩; clear HLen)
    | ((with_reducible refine wpI2 (HSW.out _ hI1) ?_ ?_ ?_ ?_ ?_); rfl; rfl; rfl; rfl; rintro v w2 ⟨hI2, hF2⟩)
    | (go_at_call 135; (with_reducible refine (heap_down HH.out _ _ hI2 0 _ _ ?_ ?_ ?_ ?_ ?_).mono ?_); omega; omega; omega; simp only [Int.toNat_natCast, Int.toNat_zero]; exact HD.out; omega; simp only [Int.toNat_natCast, Int.toNat_zero]; rintro e w3 ⟨l', b, rfl, hI3, hF3, hp, hk, hb0, hb1⟩; have HB := Lib.hid (And.intro hb0 hb1); clear hb0 hb1; have HK := Lib.hid (hk n (by simp)); clear hk; have hh : HL.HeapTo lt 0 l' n := (by cases b with
        | false => exact HL.heapTo_of_post (HB.out.1 rfl).2
        | true => exact HB.out.2 rfl); have hend := pop_end HN.out (by omega) hp hh HK.out; have HI3 := Lib.hid (by have := hI3; rw [hend.1] at this; exact this); have HI := Lib.hid (HP.out _ _ HI3.out (HH.out.trans _ _ _ hF1 (HH.out.trans _ _ _ hF2 hF3)) hend.2.1 hend.2.2); clear HI3 hend HK HB hh)
    | ((with_reducible refine wpI0 HI.out ?_ ?_ ?_); rfl; rfl; rintro v w4 hK4))
  go_ret
  exact ⟨_, rfl, hK4⟩

end Go.Proofs.YtedcpckocedcoaaGreat

/- container/heap's Init over any value of heap.Interface whose methods meet their contracts. -/
namespace Go.Proofs.YtedcpckocedcoaaGreat
open Go.RowKit

/-- What holds as Init goes on: all parents from i on are in order. -/
def InitRel {α : Type} [Inhabited α] (lt : α → α → Bool) (I : List α → World → Prop) (F : World → World → Prop) (l0 : List α) (w : World) (i : Nat) (wr : World) : Prop :=
  ∃ l, I l wr ∧ F w wr ∧ l.Perm l0 ∧ HL.HeapTo lt i l l0.length

set_option maxHeartbeats 400000 in
theorem heap_init {α : Type} [Inhabited α] {lt : α → α → Bool} {it : Value} {I : List α → World → Prop} {F : World → World → Prop} (H : HeapRep Tryz.prog it lt I F) {w : World} (l0 : List α) (h0 : I l0 w) :
    Calls Tryz.prog 106 #[it] w fun e w' => e = .returned (.tuple #[]) ∧ ∃ l, I l w' ∧ F w w' ∧ l.Perm l0 ∧ HL.IsHeap lt l := by
  have HH := Lib.hid H; clear H
  have hsm := HH.out.small _ _ h0
  have HLen := Lib.hid (HH.out.len _ _ h0)
  go_enter Tryz.func106, Tryz.ntmps106
  go_wp2_with ((with_reducible refine wpI0 HLen.out ?_ ?_ ?_); rfl; rfl; rintro v w1 ⟨rfl, hI1, hF1⟩; clear HLen)
  go_loopw [3] (fun iv wr => ∃ i : Nat, i ≤ l0.length / 2 ∧ iv = .int .i64 ((i : Int) - 1) ∧ InitRel lt I F l0 w i wr) (fun iv _ => (intOf iv + 1).toNat)
  case atStart => exact ⟨l0.length / 2, Nat.le_refl _, by go_num, l0, hI1, hF1, List.Perm.refl _, HL.heapTo_half _ _⟩
  case round =>
    obtain ⟨i, hi, rfl, l, hI, hF, hp, hh⟩ := hrel
    have hl0 : l.length ≤ l0.length := Nat.le_of_eq hp.length_eq
    have hl1 : l0.length ≤ l.length := Nat.le_of_eq hp.length_eq.symm
    have HHT := Lib.hid hh; clear hh
    by_cases hi0 : i = 0
    · subst hi0
      go_wp2
      go_end0
      exact ⟨rfl, l, hI, hF, hp, by unfold HL.IsHeap; rw [hp.length_eq]; exact HHT.out⟩
    · obtain ⟨k, rfl⟩ : ∃ k, i = k + 1 := ⟨i - 1, by omega⟩
      go_wp2_with (go_at_call 135; (with_reducible refine (heap_down HH.out _ _ hI k _ _ ?_ ?_ ?_ ?_ ?_).mono ?_); omega; omega; omega; simp only [Int.toNat_natCast]; exact HL.downInv_init HHT.out; omega; simp only [Int.toNat_natCast]; rintro e w3 ⟨l', b, rfl, hI3, hF3, hp3, hk, hb0, hb1⟩; have HB := Lib.hid (And.intro hb0 hb1); clear hb0 hb1; have HK := Lib.hid hk; clear hk)
      go_roundw
      case rel => exact ⟨k, by omega, by go_num, l', hI3, HH.out.trans _ _ _ hF hF3, hp3.trans hp, by
        cases b with
        | false => exact HL.heapTo_of_post (HB.out.1 rfl).2
        | true => exact HB.out.2 rfl⟩
      case measure => simp [intOf]

end Go.Proofs.YtedcpckocedcoaaGreat

/- pile's numbers as a heap.Interface: the contracts of its methods. -/
namespace Go.Proofs.YtedcpckocedcoaaGreat
open Go.RowKit

theorem len_nums (p : Option Addr) (n c : Nat) (w : World) :
    Calls Tryz.prog 183 #[.slice p n c] w fun e w' => e = .returned (.int .i64 n) ∧ w = w' := by
  go_enter Tryz.func183, Tryz.ntmps183
  go_wp2
  go_ret
  exact ⟨rfl, rfl⟩

set_option maxHeartbeats 400000 in
set_option maxRecDepth 100000 in
theorem less_nums (g n cap i j : Nat) (x y : Int) (w : World) (hi : i < n) (hj : j < n) (hx : w.cell? ⟨g, i, none⟩ = some (.int .i64 x)) (hy : w.cell? ⟨g, j, none⟩ = some (.int .i64 y)) :
    Calls Tryz.prog 184 #[.slice (some ⟨g, 0, none⟩) n cap, .int .i64 i, .int .i64 j] w fun e w' => e = .returned (.bool (decide (x < y))) ∧ ∃ m, w' = w.drewN m := by
  go_enter Tryz.func184, Tryz.ntmps184
  go_wp2
  go_quiet (fail)
  go_wp2
  go_ret
  exact ⟨rfl, _, rfl⟩

set_option maxHeartbeats 400000 in
set_option maxRecDepth 100000 in
theorem swap_nums (g n cap i j : Nat) (x y : Int) (w : World) (hi : i < n) (hj : j < n) (hij : ¬ i = j) (hx : w.cell? ⟨g, i, none⟩ = some (.int .i64 x)) (hy : w.cell? ⟨g, j, none⟩ = some (.int .i64 y)) (hf : ∀ k, w.frozen? ⟨g, k, none⟩ = false) :
    Calls Tryz.prog 185 #[.slice (some ⟨g, 0, none⟩) n cap, .int .i64 i, .int .i64 j] w fun e w' => e = .returned (.tuple #[]) ∧ w' = ((w.setCell ⟨g, i, none⟩ (.int .i64 y)).setCell ⟨g, j, none⟩ (.int .i64 x)).drew := by
  go_enter Tryz.func185, Tryz.ntmps185
  go_wp2
  go_region
  go_end0
  exact ⟨rfl, rfl⟩

set_option maxHeartbeats 400000 in
set_option maxRecDepth 100000 in
theorem swap_nums_same (g n cap i : Nat) (x : Int) (w : World) (hi : i < n) (hx : w.cell? ⟨g, i, none⟩ = some (.int .i64 x)) (hf : ∀ k, w.frozen? ⟨g, k, none⟩ = false) :
    Calls Tryz.prog 185 #[.slice (some ⟨g, 0, none⟩) n cap, .int .i64 i, .int .i64 i] w fun e w' => e = .returned (.tuple #[]) ∧ w' = ((w.setCell ⟨g, i, none⟩ (.int .i64 x)).setCell ⟨g, i, none⟩ (.int .i64 x)).drew := by
  go_enter Tryz.func185, Tryz.ntmps185
  go_wp2
  go_region
  go_end0
  exact ⟨rfl, rfl⟩

theorem ta_int (v : Value) (w : World) : (Instr.typeAssert (.iface 3 v) 20 3 false).run Tryz.prog w = .ok v w := by kernel_rfl

set_option maxHeartbeats 400000 in
set_option maxRecDepth 100000 in
theorem push_nums (ab ao : Nat) (v : Value) (base n : Nat) (xs : List Value) (x : Int) (w : World) (hc : w.cell? ⟨ab, ao, none⟩ = some v) (hf : w.frozen? ⟨ab, ao, none⟩ = false)
    (ho : w.ownsRow base 3 1 v n xs) (hne : v.ownBlock ≠ some ab) (hn : n ≤ 1000000) (hb : base ≤ w.heap.size) :
    Calls Tryz.prog 187 #[.pointer (some ⟨ab, ao, none⟩), .iface 3 (.int .i64 x)] w fun e w' => e = .returned (.tuple #[]) ∧
      ∃ g cap, w'.cell? ⟨ab, ao, none⟩ = some (.slice (some ⟨g, 0, none⟩) (n + 1) cap) ∧ w'.frozen? ⟨ab, ao, none⟩ = false ∧ w'.ownsRow base 3 1 (.slice (some ⟨g, 0, none⟩) (n + 1) cap) (n + 1) (xs ++ [.int .i64 x]) ∧
        Fr (fun k => k = ab ∨ v.ownBlock = some k) w w' ∧ Lies v g w.heap.size ∧ g ≠ ab ∧ Others ab ao w w' := by
  obtain ⟨i0, hi0, hz0, hz1, hz2⟩ := info_parts info_int
  have hlt := cell_lt hc
  obtain ⟨p, c, rfl⟩ := owns_slice ho
  have HO := Lib.hid ho; clear ho
  have HN := Lib.hid hne; clear hne
  have hta := ta_int
  go_enter Tryz.func187, Tryz.ntmps187
  go_wp2
  go_region_law (refine step_append_lies _ rfl _ _ 33 rfl base 3 i0 _ 1 8 Tryz.underlying33 hi0 hz0 hz1 hz2 rfl (by omega) (.slice p n c) n xs rfl (HO.out.drew.alloc _) ⟨w.heap.size, 0, none⟩ 1 1 [.int .i64 x] rfl rfl (new_cells w.drew _ _) (by simp [Value.oneCell']) (by omega) (by unfold maxLen; omega) (by omega) (by simp; omega) (w.heap.size + 1) (by simp) ?_; intro g cap w1 hown hgr hat hg; have HOWN := Lib.hid hown; clear hown; have hpf := push_facts hlt HN.out hgr; have HFR := Lib.hid hpf; have hc1 := (World.cell?_of_block (a := ⟨ab, ao, none⟩) hpf.1).trans hc; have hf1 := (World.frozen?_of_block (a := ⟨ab, ao, none⟩) hpf.1).trans hf; have HAT := Lib.hid hat; clear hpf hat hgr)
  all_goals
    go_end0
    exact ⟨rfl, g, cap, push_end hlt HN.out HFR.out HOWN.out HAT.out (by omega) hc1 hf1⟩

set_option maxHeartbeats 400000 in
set_option maxRecDepth 100000 in
theorem pop_nums (ab ao g n cap : Nat) (x : Int) (w : World) (hc : w.cell? ⟨ab, ao, none⟩ = some (.slice (some ⟨g, 0, none⟩) (n + 1) cap)) (hf : w.frozen? ⟨ab, ao, none⟩ = false)
    (hx : w.cell? ⟨g, n, none⟩ = some (.int .i64 x)) (hn : n + 1 ≤ cap) (hm : n ≤ 1000000) :
    Calls Tryz.prog 186 #[.pointer (some ⟨ab, ao, none⟩)] w fun e w' => e = .returned (.iface 3 (.int .i64 x)) ∧ w' = w.setCell ⟨ab, ao, none⟩ (.slice (some ⟨g, 0, none⟩) n cap) := by
  have hlt := cell_lt hc
  have hlg := cell_lt hx
  go_enter Tryz.func186, Tryz.ntmps186
  go_wp2
  go_ret
  exact ⟨rfl, rfl⟩
end Go.Proofs.YtedcpckocedcoaaGreat

/- pile's numbers are a heap.Interface in the sense of HeapRep. -/
namespace Go.Proofs.YtedcpckocedcoaaGreat
open Go.RowKit

def nlt (x y : Int) : Bool := decide (x < y)

theorem nlt_ord : HL.Ord nlt where
  asymm := fun a b h => by unfold nlt at *; simp only [decide_eq_true_eq, decide_eq_false_iff_not] at *; omega
  trans := fun a b c h1 h2 => by unfold nlt at *; simp only [decide_eq_false_iff_not] at *; omega

theorem inv_nums_len (a : Addr) (v : Value) (w : World) (h : w.cell? a = some v) :
    (invoke (.fn (.method "Len") #[]) #[.iface 125 (.pointer (some a))]).run Tryz.prog w = .ok (.enter 183 #[v]) w := by
  have e : (invoke (.fn (.method "Len") #[]) #[.iface 125 (.pointer (some a))]).run Tryz.prog w = (match w.cell? a with
      | some v => .ok (.enter 183 #[v]) w
      | none => match w.farLoad Tryz.prog a false with
        | .ok (v, _) => .ok (.enter 183 #[v]) w
        | .error h => .halt h w) := by kernel_rfl
  rw [e, h]

theorem inv_nums_two (name : String) (f : FuncId) (i j : Int) (a : Addr) (v : Value) (w : World) (hn : (name = "Less" ∧ f = 184) ∨ (name = "Swap" ∧ f = 185)) (h : w.cell? a = some v) :
    (invoke (.fn (.method name) #[]) (#[.iface 125 (.pointer (some a))] ++ #[.int .i64 i, .int .i64 j])).run Tryz.prog w = .ok (.enter f #[v, .int .i64 i, .int .i64 j]) w := by
  rcases hn with ⟨rfl, rfl⟩ | ⟨rfl, rfl⟩
  · have e : (invoke (.fn (.method "Less") #[]) (#[.iface 125 (.pointer (some a))] ++ #[.int .i64 i, .int .i64 j])).run Tryz.prog w = (match w.cell? a with
        | some v => .ok (.enter 184 #[v, .int .i64 i, .int .i64 j]) w
        | none => match w.farLoad Tryz.prog a false with
          | .ok (v, _) => .ok (.enter 184 #[v, .int .i64 i, .int .i64 j]) w
          | .error h => .halt h w) := by kernel_rfl
    rw [e, h]
  · have e : (invoke (.fn (.method "Swap") #[]) (#[.iface 125 (.pointer (some a))] ++ #[.int .i64 i, .int .i64 j])).run Tryz.prog w = (match w.cell? a with
        | some v => .ok (.enter 185 #[v, .int .i64 i, .int .i64 j]) w
        | none => match w.farLoad Tryz.prog a false with
          | .ok (v, _) => .ok (.enter 185 #[v, .int .i64 i, .int .i64 j]) w
          | .error h => .halt h w) := by kernel_rfl
    rw [e, h]

theorem inv_nums_push (a : Addr) (x : Value) (w : World) :
    (invoke (.fn (.method "Push") #[]) (#[.iface 125 (.pointer (some a))] ++ #[x])).run Tryz.prog w = .ok (.enter 187 #[.pointer (some a), x]) w := by kernel_rfl
theorem inv_nums_pop (a : Addr) (w : World) :
    (invoke (.fn (.method "Pop") #[]) (#[.iface 125 (.pointer (some a))] ++ #[])).run Tryz.prog w = .ok (.enter 186 #[.pointer (some a)]) w := by kernel_rfl

/-- The slot ⟨ab, ao⟩ holds the slice v, whose row is the list l. -/
def NumsI (ab ao base : Nat) (v : Value) (l : List Int) (w : World) : Prop :=
  w.cell? ⟨ab, ao, none⟩ = some v ∧ w.frozen? ⟨ab, ao, none⟩ = false ∧ w.ownsRow base 3 1 v l.length (rowOf ncells l) ∧ v.ownBlock ≠ some ab ∧ l.length ≤ 1000000 ∧ base ≤ w.heap.size

def OwnN (v : Value) (w w' : World) : Prop := Fr (fun k => v.ownBlock = some k) w w'

theorem NumsI.cells {ab ao base g n cap : Nat} {l : List Int} {w : World} (h : NumsI ab ao base (.slice (some ⟨g, 0, none⟩) n cap) l w) (hn : n = l.length) (k : Nat) (hk : k < l.length) :
    w.cell? ⟨g, k, none⟩ = some (.int .i64 (HL.el l k)) := by
  subst hn
  have ho := h.2.2.1
  have r0 := rowOf_at ncells ncells_length l k 0 hk (by omega)
  rw [Nat.mul_one, Nat.add_zero] at r0
  rw [ho.cellAt k (by omega)]
  exact r0

theorem NumsI.keep {ab ao base : Nat} {v : Value} {l : List Int} {w w' : World} (h : NumsI ab ao base v l w) {S : Nat → Prop} (hf : Fr S w w') (h1 : ¬ S ab) (h2 : ∀ g, v.ownBlock = some g → ¬ S g) : NumsI ab ao base v l w' := by
  obtain ⟨a, b, c, d, e, f⟩ := h
  have hlt := cell_lt a
  exact ⟨(hf.cell hlt h1).trans a, (hf.frozen hlt h1).trans b, hf.owns c h2, d, e, Nat.le_trans f hf.size⟩

theorem NumsI.set {ab ao base g n cap : Nat} {l : List Int} {w : World} (h : NumsI ab ao base (.slice (some ⟨g, 0, none⟩) n cap) l w) (k : Nat) (hk : k < l.length) (x : Int) :
    NumsI ab ao base (.slice (some ⟨g, 0, none⟩) n cap) (l.set k x) (w.setCell ⟨g, k, none⟩ (.int .i64 x)) ∧ OwnN (.slice (some ⟨g, 0, none⟩) n cap) w (w.setCell ⟨g, k, none⟩ (.int .i64 x)) := by
  obtain ⟨a, b, c, d, e, f⟩ := h
  have hn : n = l.length := by
    obtain ⟨p, cp, hv⟩ := owns_slice c
    injection hv
  subst hn
  have s1 := c.stored k (.int .i64 x)
  have hF : OwnN (.slice (some ⟨g, 0, none⟩) l.length cap) w (w.setCell ⟨g, k, none⟩ (.int .i64 x)) :=
    (Fr.refl (fun i => Value.ownBlock (.slice (some ⟨g, 0, none⟩) l.length cap) = some i) w).setCell (p := ⟨g, k, none⟩) (fun _ => rfl) _
  have hlt := cell_lt a
  have hns : ¬ (Value.ownBlock (.slice (some ⟨g, 0, none⟩) l.length cap) = some ab) := d
  refine ⟨⟨(hF.cell hlt hns).trans a, (hF.frozen hlt hns).trans b, ?_, d, by rw [List.length_set]; exact e, Nat.le_trans f hF.size⟩, hF⟩
  rw [List.length_set, ← rowOf_set1 ncells ncells_length l k x _ rfl hk]
  exact s1.1

theorem NumsI.drew {ab ao base : Nat} {v : Value} {l : List Int} {w : World} (h : NumsI ab ao base v l w) : NumsI ab ao base v l w.drew := h
theorem NumsI.drewN {ab ao base : Nat} {v : Value} {l : List Int} {w : World} (h : NumsI ab ao base v l w) (m : Nat) : NumsI ab ao base v l (w.drewN m) := h

theorem nums_rep (ab ao base : Nat) (v : Value) : HeapRep Tryz.prog (.iface 125 (.pointer (some ⟨ab, ao, none⟩))) nlt (NumsI ab ao base v) (OwnN v) where
  refl := fun w => Fr.refl _ w
  trans := fun w1 w2 w3 h k => Fr.trans h k (fun i hi _ => hi)
  ord := nlt_ord
  small := fun l w h => h.2.2.2.2.1
  len := fun l w h => by
    obtain ⟨p, c, hv⟩ := owns_slice h.2.2.1
    refine ⟨_, _, inv_nums_len ⟨ab, ao, none⟩ v w h.1, ?_⟩
    rw [hv]
    refine (len_nums p l.length c w).mono ?_
    rintro e w' ⟨rfl, rfl⟩
    exact ⟨_, rfl, rfl, by rw [← hv]; exact h, Fr.refl _ _⟩
  less := fun l w h i j hi0 hi hj0 hj => by
    obtain ⟨g, cap, hv, _, hg, _⟩ := owns_len h.2.2.1 (by omega)
    have hx := (hv ▸ h).cells rfl i.toNat (by omega)
    have hy := (hv ▸ h).cells rfl j.toNat (by omega)
    refine ⟨_, _, inv_nums_two "Less" _ i j ⟨ab, ao, none⟩ v w (.inl ⟨rfl, rfl⟩) h.1, ?_⟩
    rw [hv]
    obtain ⟨i, rfl⟩ := Int.eq_ofNat_of_zero_le hi0
    obtain ⟨j, rfl⟩ := Int.eq_ofNat_of_zero_le hj0
    rw [Int.toNat_natCast] at hx hy
    refine (less_nums g l.length cap i j (HL.el l i) (HL.el l j) w (by omega) (by omega) hx hy).mono ?_
    rintro e w' ⟨rfl, m, rfl⟩
    refine ⟨_, rfl, rfl, ?_, (Fr.refl _ w).drewN m⟩
    rw [← hv]
    exact h
  swap := fun l w h i j hi0 hi hj0 hj => by
    obtain ⟨g, cap, hv, _, hg, _⟩ := owns_len h.2.2.1 (by omega)
    have h' := hv ▸ h
    have hx := h'.cells rfl i.toNat (by omega)
    have hy := h'.cells rfl j.toNat (by omega)
    refine ⟨_, _, inv_nums_two "Swap" _ i j ⟨ab, ao, none⟩ v w (.inr ⟨rfl, rfl⟩) h.1, ?_⟩
    rw [hv]
    obtain ⟨i, rfl⟩ := Int.eq_ofNat_of_zero_le hi0
    obtain ⟨j, rfl⟩ := Int.eq_ofNat_of_zero_le hj0
    rw [Int.toNat_natCast] at hx hy
    have s1 := h'.set i (by omega) (HL.el l j)
    have s2 := s1.1.set j (by rw [List.length_set]; omega) (HL.el l i)
    have hfz : ∀ k, w.frozen? ⟨g, k, none⟩ = false := fun k => h'.2.2.1.frozenAt k
    have hfin : NumsI ab ao base (.slice (some ⟨g, 0, none⟩) l.length cap) (HL.swp l i j) _ ∧ OwnN (.slice (some ⟨g, 0, none⟩) l.length cap) w _ := ⟨s2.1, Fr.trans s1.2 s2.2 (fun k hk _ => hk)⟩
    by_cases hij : i = j
    · subst hij
      refine (swap_nums_same g l.length cap i (HL.el l i) w (by omega) hx hfz).mono ?_
      rintro e w' ⟨rfl, rfl⟩
      rw [Int.toNat_natCast]
      exact ⟨_, rfl, hfin.1.drew, hfin.2.drew⟩
    · refine (swap_nums g l.length cap i j (HL.el l i) (HL.el l j) w (by omega) (by omega) hij hx hy hfz).mono ?_
      rintro e w' ⟨rfl, rfl⟩
      rw [Int.toNat_natCast, Int.toNat_natCast]
      exact ⟨_, rfl, hfin.1.drew, hfin.2.drew⟩

set_option maxHeartbeats 400000 in
/-- heap.Push on numbers. -/
theorem heap_push_nums (ab ao base : Nat) (v : Value) (l : List Int) (x : Int) (w : World) (h : NumsI ab ao base v l w) (hh : HL.IsHeap nlt l) (hn : l.length < 1000000) :
    Calls Tryz.prog 104 #[.iface 125 (.pointer (some ⟨ab, ao, none⟩)), .iface 3 (.int .i64 x)] w fun e w' => e = .returned (.tuple #[]) ∧
      ∃ v' l', NumsI ab ao base v' l' w' ∧ HL.IsHeap nlt l' ∧ l'.Perm (l ++ [x]) ∧ Fr (fun k => k = ab ∨ v.ownBlock = some k) w w' ∧ (∀ g, v'.ownBlock = some g → Lies v g w.heap.size) ∧ Others ab ao w w' := by
  refine heap_push (lt := nlt) ?_
  refine ⟨_, _, inv_nums_push _ _ w, (push_nums ab ao v base l.length (rowOf ncells l) x w h.1 h.2.1 h.2.2.1 h.2.2.2.1 (by omega) h.2.2.2.2.2).mono ?_⟩
  rintro e w1 ⟨rfl, g, cap, hc, hf, ho, hfr, hl, hg, hoth⟩
  refine ⟨_, rfl, NumsI ab ao base (.slice (some ⟨g, 0, none⟩) (l.length + 1) cap), OwnN (.slice (some ⟨g, 0, none⟩) (l.length + 1) cap), l, x, nums_rep ab ao base _, ⟨hc, hf, ?_, fun e => hg (by simpa [Value.ownBlock] using e), by simp; omega, Nat.le_trans h.2.2.2.2.2 hfr.size⟩, hh, ?_⟩
  · rw [rowOf_append, rowOf_one, List.length_append]; exact ho
  · intro l' w2 hI hF hp hh'
    refine ⟨_, l', hI, hh', hp, Fr.trans hfr hF (fun i hi hlt => ?_), fun g' hg' => ?_, hoth.trans (Others.of_block (hF.block ab (cell_lt hc) (fun e => hg (by simpa [Value.ownBlock] using e))))⟩
    · have : g = i := by simpa [Value.ownBlock] using hi
      subst this
      rcases hl with hl | hl
      · exact .inr hl
      · omega
    · have : g = g' := by simpa [Value.ownBlock] using hg'
      subst this
      exact hl

/-- The method Pop on numbers, as heap.Pop and heap.Remove use it. -/
theorem invPop_nums (ab ao base : Nat) (v : Value) (l0 l' : List Int) (x : Int) (w w1 : World) (h0 : NumsI ab ao base v l0 w) (hI : NumsI ab ao base v (l' ++ [x]) w1) (hF : OwnN v w w1) (hp : (x :: l').Perm l0) (hh' : HL.IsHeap nlt l') :
    InvC Tryz.prog (.iface 125 (.pointer (some ⟨ab, ao, none⟩))) "Pop" #[] w1 fun u w' => ∃ v' l', u = .iface 3 (.int .i64 x) ∧ NumsI ab ao base v' l' w' ∧ HL.IsHeap nlt l' ∧ (x :: l').Perm l0 ∧ Fr (fun k => k = ab ∨ v.ownBlock = some k) w w' ∧ v'.ownBlock = v.ownBlock ∧ Others ab ao w w' := by
  obtain ⟨g, cap, hv, _, hg, hcap⟩ := owns_len hI.2.2.1 (by simp)
  have hI' := hv ▸ hI
  have hx := hI'.cells rfl l'.length (by simp)
  rw [show HL.el (l' ++ [x]) l'.length = x from HL.el_append_right l' _] at hx
  have hlen : (l' ++ [x]).length = l'.length + 1 := by simp
  rw [hlen] at hI' hcap
  refine ⟨_, _, inv_nums_pop _ w1, (pop_nums ab ao g l'.length cap x w1 hI'.1 hI'.2.1 hx hcap (by have := hI.2.2.2.2.1; simp at this; omega)).mono ?_⟩
  rintro e w2 ⟨rfl, rfl⟩
  have hab : g ≠ ab := fun e => hI'.2.2.2.1 (by rw [e]; rfl)
  have hob : v.ownBlock = some g := by rw [hv]; rfl
  have hF2 : Fr (fun k => k = ab) w1 (w1.setCell ⟨ab, ao, none⟩ (.slice (some ⟨g, 0, none⟩) l'.length cap)) := (Fr.refl (fun k => k = ab) w1).setCell (p := ⟨ab, ao, none⟩) (fun _ => rfl) _
  refine ⟨_, rfl, .slice (some ⟨g, 0, none⟩) l'.length cap, l', rfl, ⟨cell_set_same _ _ _ _ hI'.1, by rw [frozen_set]; exact hI'.2.1, ?_, fun e => hab (by simpa [Value.ownBlock] using e), by have := hI.2.2.2.2.1; simp at this; omega, Nat.le_trans hI.2.2.2.2.2 hF2.size⟩, hh', hp, ?_, hob.symm, ?_⟩
  · have ho := hF2.owns hI'.2.2.1 (fun g' hg' => by have : g = g' := by simpa [Value.ownBlock] using hg'
                                                    subst this; exact hab)
    rw [rowOf_append, hlen] at ho
    exact ownsRow_pop (rowOf_length ncells ncells_length l') ho
  · exact Fr.trans (Fr.mono hF (fun i _ hi => .inr hi)) hF2 (fun i hi _ => .inl hi)
  · have hlt := cell_lt h0.1
    exact (Others.of_block (hF.block ab hlt (fun e => hab (by rw [hob] at e; simpa using e)))).trans (Others.set ab ao w1 _)

/-- heap.Pop on numbers. -/
theorem heap_pop_nums (ab ao base : Nat) (v : Value) (l : List Int) (w : World) (h : NumsI ab ao base v l w) (hh : HL.IsHeap nlt l) (hn : 0 < l.length) :
    Calls Tryz.prog 103 #[.iface 125 (.pointer (some ⟨ab, ao, none⟩))] w fun e w' => ∃ u, e = .returned u ∧
      ∃ v' l', u = .iface 3 (.int .i64 (HL.el l 0)) ∧ NumsI ab ao base v' l' w' ∧ HL.IsHeap nlt l' ∧ (HL.el l 0 :: l').Perm l ∧ Fr (fun k => k = ab ∨ v.ownBlock = some k) w w' ∧ v'.ownBlock = v.ownBlock ∧ Others ab ao w w' :=
  heap_pop (nums_rep ab ao base v) l h hn hh fun l' w1 hI hF hp hh' => invPop_nums ab ao base v l l' _ w w1 h hI hF hp hh'


end Go.Proofs.YtedcpckocedcoaaGreat

/- pile's Pile: the contracts of slices.Clone at ints, New, Len, Put, Take and First. -/
namespace Go.Proofs.YtedcpckocedcoaaGreat
open Go.RowKit

set_option maxHeartbeats 400000 in
set_option maxRecDepth 100000 in
theorem clone_ints (p : Option Addr) (n c : Nat) (zs : List Int) (w : World) (h : RdI w w.heap.size p n zs) (hn : n ≤ 1000000) :
    Calls Tryz.prog 105 #[.slice p n c] w fun e w' => ∃ v, e = .returned v ∧ w'.ownsRow w.heap.size 3 1 v n (rowOf ncells zs) ∧ Below w.heap.size w w' := by
  obtain ⟨i0, hi0, hz0, hz1, hz2⟩ := info_parts info_int
  have heq : ∀ W, (binOp .eql 22 (.slice p n c) (.slice none 0 0)).run Tryz.prog W = .ok (.bool p.isNone) W := fun W => Lib.run_eql_slice_nil W 22 3 p n c 0 0 Tryz.underlying22
  have hz := h.1
  cases p with
  | none =>
    have h0 : n = 0 := by
      rcases Nat.eq_zero_or_pos n with h0 | h0
      · exact h0
      · obtain ⟨b, o, e, _⟩ := h.2 h0; cases e
    subst h0
    have : zs = [] := List.eq_nil_of_length_eq_zero hz
    subst this
    clear h hz
    go_enter Tryz.func105, Tryz.ntmps105
    go_wp2
    go_ret
    exact ⟨_, rfl, World.ownsRow_nil _ _ _ _, Below.refl _ _⟩
  | some ad =>
    have hnews : ∀ W : World, Below w.heap.size w W → ∀ j u, (rowOf ncells zs)[j]? = some u → W.cell? (ad.add j) = some u := by
      intro W hb j u hu
      obtain ⟨hj, rfl⟩ := rowOf_ncells_get hu
      obtain ⟨b, o, e, hlt, hc⟩ := h.2 (by omega)
      injection e with e
      subst e
      rw [add_at, ← hc j (by omega)]
      exact hb.cell hlt
    have HNE := Lib.hid hnews
    have hlen : (rowOf ncells zs).length = n := by rw [rowOf_length ncells ncells_length, hz, Nat.mul_one]
    have HL1 := Lib.hid hlen
    clear h hz hnews hlen
    go_enter Tryz.func105, Tryz.ntmps105
    go_wp2_with (at_builtin; refine wpList_append_own _ rfl _ _ 22 rfl w.heap.size 3 i0 _ 1 8 Tryz.underlying22 hi0 hz0 hz1 hz2 rfl (by omega) (.slice (some ⟨w.heap.size, 0, none⟩) 0 0) 0 [] rfl ?c0 ad n c (rowOf ncells zs) rfl ?c1 ?c2 ?c3 ?c4 ?c5 ?c6 ?_; (case c0 => exact World.ownsRow_made w #[] 0 (Nat.le_refl _) (by simp [maxLen]) (by simp)); (case c1 => rw [HL1.out, Nat.mul_one]); (case c2 => exact HNE.out _ ((Below.refl _ _).alloc (Nat.le_refl _) _)); (case c3 => exact rowOf_ncells_one); (case c4 => unfold maxLen; omega); (case c5 => omega); (case c6 => simp); intro v w1 hown hgr _)
    go_ret
    rw [Nat.zero_add, List.nil_append] at hown
    refine ⟨_, rfl, hown, ((Below.refl _ _).alloc (Nat.le_refl _) _).grown hgr (by simp) (fun k hk => ?_)⟩
    have : w.heap.size = k := by simpa [Value.ownBlock] using hk
    omega

/-- Block pb is a Pile that has l, a heap. -/
def PileI (pb base : Nat) (v : Value) (l : List Int) (w : World) : Prop := NumsI pb 0 base v l w ∧ HL.IsHeap nlt l

theorem PileI.keep {pb base : Nat} {v : Value} {l : List Int} {w w' : World} (h : PileI pb base v l w) {S : Nat → Prop} (hf : Fr S w w') (hS : ∀ k, (k = pb ∨ v.ownBlock = some k) → ¬ S k) : PileI pb base v l w' :=
  ⟨h.1.keep hf (hS pb (.inl rfl)) (fun g hg => hS g (.inr hg)), h.2⟩

set_option maxHeartbeats 400000 in
set_option maxRecDepth 100000 in
theorem pile_new (p : Option Addr) (n c : Nat) (zs : List Int) (w : World) (h : RdI w w.heap.size p n zs) (hn : n ≤ 1000000) :
    Calls Tryz.prog 42 #[.slice p n c] w fun e w' => ∃ pb v l, e = .returned (.pointer (some ⟨pb, 0, none⟩)) ∧ w.heap.size ≤ pb ∧ PileI pb w.heap.size v l w' ∧ l.Perm zs ∧ Below w.heap.size w w' := by
  have HC := Lib.hid (clone_ints p n c zs w h hn)
  have hz := h.1
  have HZ := Lib.hid hz
  clear h hz
  go_enter Tryz.func42, Tryz.ntmps42
  go_wp2_with fail
  refine HC.out.mono ?_
  rintro e w1 ⟨v, rfl, ho, hb⟩
  obtain ⟨q, d, rfl⟩ := owns_slice ho
  have hz := hb.size
  have hob := fun k hk => (ho.lt k hk)
  have HI : Hid (NumsI w1.heap.size 0 w.heap.size (.slice q n d) zs (w1.alloc (.cells #[.slice q n d] 35))) :=
    ⟨by go_simp, by go_simp, by rw [HZ.out]; exact ho.alloc _, fun e => by have := (hob _ e).2; omega, by rw [HZ.out]; exact hn, by simp; omega⟩
  have HO := Lib.hid ho
  clear ho hob
  go_wp2_with fail
  refine (heap_init (nums_rep _ _ _ _) zs HI.out).mono ?_
  rintro e w2 ⟨rfl, l, hI, hF, hp, hh⟩
  have HI2 := Lib.hid (show PileI w1.heap.size w.heap.size (.slice q n d) l w2 from ⟨hI, hh⟩)
  have HF := Lib.hid hF
  clear hI hF
  go_wp2
  go_ret
  refine ⟨_, _, l, rfl, hz, HI2.out, hp, Below.trans (hb.alloc hz _) (HF.out.below (by simp; omega) (fun i hi => (HO.out.lt i hi).1))⟩

set_option maxHeartbeats 400000 in
set_option maxRecDepth 100000 in
theorem pile_len (pb base : Nat) (v : Value) (l : List Int) (w : World) (h : PileI pb base v l w) :
    Calls Tryz.prog 51 #[.pointer (some ⟨pb, 0, none⟩)] w fun e w' => e = .returned (.int .i64 l.length) ∧ w = w' := by
  obtain ⟨p, c, hv⟩ := owns_slice h.1.2.2.1
  have hc := h.1.1
  rw [hv] at hc
  clear h hv
  generalize l.length = n at *
  go_enter Tryz.func51, Tryz.ntmps51
  go_wp2
  go_ret
  exact ⟨rfl, rfl⟩

set_option maxHeartbeats 400000 in
set_option maxRecDepth 100000 in
theorem pile_first_none (pb base : Nat) (v : Value) (w : World) (h : PileI pb base v [] w) :
    Calls Tryz.prog 45 #[.pointer (some ⟨pb, 0, none⟩)] w fun e w' => e = .returned (.tuple #[.int .i64 0, .bool false]) ∧ w = w' := by
  have HH := Lib.hid h; clear h
  go_enter Tryz.func45, Tryz.ntmps45
  go_wp2_with fail
  refine (pile_len pb base v [] _ HH.out).mono ?_
  rintro e w' ⟨rfl, rfl⟩
  go_wp2
  go_ret2
  exact ⟨rfl, rfl⟩

set_option maxHeartbeats 400000 in
set_option maxRecDepth 100000 in
theorem pile_first_some (pb base : Nat) (v : Value) (l : List Int) (w : World) (h : PileI pb base v l w) (hn : 0 < l.length) :
    Calls Tryz.prog 45 #[.pointer (some ⟨pb, 0, none⟩)] w fun e w' => e = .returned (.tuple #[.int .i64 (HL.el l 0), .bool true]) ∧ w = w' := by
  obtain ⟨g, cap, hv, _, hg, _⟩ := owns_len h.1.2.2.1 hn
  have h' := hv ▸ h
  have hx := h'.1.cells rfl 0 hn
  have hc := h'.1.1
  have HL0 := Lib.hid (pile_len pb base v l w h)
  have hne : ((l.length : Int) == 0) = false := by rw [beq_eq_false_iff_ne]; omega
  clear h h' hv
  generalize HL.el l 0 = x at *
  generalize l.length = n at *
  go_enter Tryz.func45, Tryz.ntmps45
  go_wp2_with fail
  refine HL0.out.mono ?_
  rintro e w' ⟨rfl, rfl⟩
  go_wp2
  go_ret2
  exact ⟨rfl, rfl⟩

set_option maxHeartbeats 400000 in
set_option maxRecDepth 100000 in
theorem pile_take_none (pb base : Nat) (v : Value) (w : World) (h : PileI pb base v [] w) :
    Calls Tryz.prog 39 #[.pointer (some ⟨pb, 0, none⟩)] w fun e w' => e = .returned (.tuple #[.int .i64 0, .bool false]) ∧ w = w' := by
  have HH := Lib.hid h; clear h
  go_enter Tryz.func39, Tryz.ntmps39
  go_wp2_with fail
  refine (pile_len pb base v [] _ HH.out).mono ?_
  rintro e w' ⟨rfl, rfl⟩
  go_wp2
  go_ret2
  exact ⟨rfl, rfl⟩

set_option maxHeartbeats 400000 in
set_option maxRecDepth 100000 in
theorem pile_take_some (pb base : Nat) (v : Value) (l : List Int) (w : World) (h : PileI pb base v l w) (hn : 0 < l.length) :
    Calls Tryz.prog 39 #[.pointer (some ⟨pb, 0, none⟩)] w fun e w' => e = .returned (.tuple #[.int .i64 (HL.el l 0), .bool true]) ∧
      ∃ v' l', PileI pb base v' l' w' ∧ (HL.el l 0 :: l').Perm l ∧ Fr (fun k => k = pb ∨ v.ownBlock = some k) w w' ∧ v'.ownBlock = v.ownBlock := by
  have HL0 := Lib.hid (pile_len pb base v l w h)
  have HP := Lib.hid (heap_pop_nums pb 0 base v l w h.1 h.2 hn)
  have hne : ((l.length : Int) == 0) = false := by rw [beq_eq_false_iff_ne]; omega
  have hta := ta_int
  clear h
  generalize HL.el l 0 = x at *
  go_enter Tryz.func39, Tryz.ntmps39
  go_wp2_with fail
  refine HL0.out.mono ?_
  rintro e w' ⟨rfl, rfl⟩
  go_wp2_with fail
  refine HP.out.mono ?_
  rintro e w2 ⟨u, rfl, v', l', rfl, hI, hh, hp, hfr, hv', hoth⟩
  have HI := Lib.hid hI
  have HV := Lib.hid hv'
  have HF := Lib.hid hfr
  clear hI hv' hfr hoth
  go_wp2
  go_ret2
  exact ⟨rfl, v', l', ⟨HI.out, hh⟩, hp, HF.out, HV.out⟩
end Go.Proofs.YtedcpckocedcoaaGreat

/- pile's Pile: the contract of Put. -/
namespace Go.Proofs.YtedcpckocedcoaaGreat
open Go.RowKit

def pileF (pb : Nat) (v : Value) : Nat → Prop := fun k => k = pb ∨ v.ownBlock = some k

/-- What holds as Put goes on: k of the numbers are there. -/
def PutRel (pb base : Nat) (v0 : Value) (l0 zs : List Int) (w : World) (k : Nat) (wr : World) : Prop :=
  ∃ v l, PileI pb base v l wr ∧ l.Perm (l0 ++ zs.take k) ∧ Fr (pileF pb v0) w wr ∧ (∀ g, v.ownBlock = some g → Lies v0 g w.heap.size)

theorem PutRel.step {pb base : Nat} {v0 v v' : Value} {l0 zs l l' : List Int} {w wr w2 : World} {k : Nat} (hk : k < zs.length) (hp : l.Perm (l0 ++ zs.take k)) (hF : Fr (pileF pb v0) w wr) (hL : ∀ g, v.ownBlock = some g → Lies v0 g w.heap.size)
    (hI : PileI pb base v' l' w2) (hp' : l'.Perm (l ++ [HL.el zs k])) (hF' : Fr (fun i => i = pb ∨ v.ownBlock = some i) wr w2) (hL' : ∀ g, v'.ownBlock = some g → Lies v g wr.heap.size) : PutRel pb base v0 l0 zs w (k + 1) w2 := by
  refine ⟨v', l', hI, ?_, Fr.trans hF hF' (fun i hi hlt => ?_), fun g hg => ?_⟩
  · have e : zs.take (k + 1) = zs.take k ++ [HL.el zs k] := by
      rw [List.take_succ_eq_append_getElem hk]
      have := HL.el_eq zs k hk
      rw [List.getElem?_eq_getElem hk] at this
      injection this with this
      rw [this]
    rw [e, ← List.append_assoc]
    exact hp'.trans (hp.append_right _)
  · rcases hi with hi | hi
    · exact .inl hi
    · rcases hL i hi with h | h
      · exact .inr h
      · omega
  · rcases hL' g hg with h | h
    · exact hL g h
    · exact .inr (Nat.le_trans hF.size h)

set_option maxHeartbeats 400000 in
set_option maxRecDepth 100000 in
theorem pile_put (pb base : Nat) (v : Value) (l zs : List Int) (p : Option Addr) (n c : Nat) (w : World) (h : PileI pb base v l w) (hz : RdI w w.heap.size p n zs) (hS : ∀ b o, p = some ⟨b, o, none⟩ → 0 < n → ¬ pileF pb v b) (hn : l.length + n < 1000000) :
    Calls Tryz.prog 40 #[.pointer (some ⟨pb, 0, none⟩), .slice p n c] w fun e w' => e = .returned (.tuple #[]) ∧
      ∃ v' l', PileI pb base v' l' w' ∧ l'.Perm (l ++ zs) ∧ Fr (pileF pb v) w w' ∧ (∀ g, v'.ownBlock = some g → Lies v g w.heap.size) := by
  have hzl := hz.1
  have hst : PutRel pb base v l zs w 0 w := ⟨v, l, h, by simp, Fr.refl _ _, fun g hg => .inl hg⟩
  have HST := Lib.hid hst; clear hst h
  have HZ := Lib.hid hz; clear hz
  have HZL := Lib.hid hzl; clear hzl
  have HS := Lib.hid hS; clear hS
  go_enter Tryz.func40, Tryz.ntmps40
  go_wp2
  go_loopw [5, 10] (fun _ iv wr => ∃ k : Nat, k ≤ n ∧ iv = .int .i64 k ∧ PutRel pb base v l zs w k wr) (fun _ iv _ => n - (intOf iv).toNat)
  case atStart => exact ⟨0, Nat.zero_le _, rfl, HST.out⟩
  case round =>
    clear HST
    obtain ⟨k, hk, rfl, v1, l1, hI, hp, hF, hL⟩ := hrel
    have hlen : l1.length ≤ l.length + k := by rw [hp.length_eq, List.length_append, List.length_take]; omega
    have HL1 := Lib.hid hL; clear hL
    by_cases hlt : k < n
    · obtain ⟨b, o, e, hb, hc⟩ := HZ.out.2 (by omega)
      have hcell := (hF.cell (p := ⟨b, o + k, none⟩) hb (HS.out b o e (by omega))).trans (hc k hlt)
      clear hc
      subst e
      have HP := Lib.hid (heap_push_nums pb 0 base v1 l1 (HL.el zs k) wr hI.1 hI.2 (by omega))
      clear hI
      generalize hx : HL.el zs k = x at *
      have HX := Lib.hid hx; clear hx
      go_wp2_with fail
      refine HP.out.mono ?_
      rintro e w2 ⟨rfl, v2, l2, hI2, hh2, hp2, hF2, hL2, _⟩
      have HR : Hid (PutRel pb base v l zs w (k + 1) w2) := PutRel.step (by rw [HZL.out]; exact hlt) hp hF HL1.out ⟨hI2, hh2⟩ (by rw [HX.out]; exact hp2) hF2 hL2
      clear hI2 hh2 hp2 hF2 hL2
      go_wp2
      go_roundw
      case rel => exact ⟨k + 1, by omega, by go_num, HR.out⟩
      case measure => simp [intOf]; omega
    · have : k = n := by omega
      subst this
      go_wp2
      go_end0
      exact ⟨rfl, v1, l1, hI, by rw [List.take_of_length_le (by rw [HZL.out]; omega)] at hp; exact hp, hF, HL1.out⟩
end Go.Proofs.YtedcpckocedcoaaGreat

/- pile's Pile in a larger struct: Put and Take leave the other cells of its block. -/
namespace Go.Proofs.YtedcpckocedcoaaGreat
open Go.RowKit

/-- What holds as Put goes on: k of the numbers are there. -/
def PutRelO (pb base : Nat) (v0 : Value) (l0 zs : List Int) (w : World) (k : Nat) (wr : World) : Prop :=
  ∃ v l, PileI pb base v l wr ∧ l.Perm (l0 ++ zs.take k) ∧ Fr (pileF pb v0) w wr ∧ (∀ g, v.ownBlock = some g → Lies v0 g w.heap.size) ∧ Others pb 0 w wr

theorem PutRelO.step {pb base : Nat} {v0 v v' : Value} {l0 zs l l' : List Int} {w wr w2 : World} {k : Nat} (hk : k < zs.length) (hp : l.Perm (l0 ++ zs.take k)) (hF : Fr (pileF pb v0) w wr) (hL : ∀ g, v.ownBlock = some g → Lies v0 g w.heap.size) (hO : Others pb 0 w wr)
    (hI : PileI pb base v' l' w2) (hp' : l'.Perm (l ++ [HL.el zs k])) (hF' : Fr (fun i => i = pb ∨ v.ownBlock = some i) wr w2) (hL' : ∀ g, v'.ownBlock = some g → Lies v g wr.heap.size) (hO' : Others pb 0 wr w2) : PutRelO pb base v0 l0 zs w (k + 1) w2 := by
  refine ⟨v', l', hI, ?_, Fr.trans hF hF' (fun i hi hlt => ?_), fun g hg => ?_, hO.trans hO'⟩
  · have e : zs.take (k + 1) = zs.take k ++ [HL.el zs k] := by
      rw [List.take_succ_eq_append_getElem hk]
      have := HL.el_eq zs k hk
      rw [List.getElem?_eq_getElem hk] at this
      injection this with this
      rw [this]
    rw [e, ← List.append_assoc]
    exact hp'.trans (hp.append_right _)
  · rcases hi with hi | hi
    · exact .inl hi
    · rcases hL i hi with h | h
      · exact .inr h
      · omega
  · rcases hL' g hg with h | h
    · exact hL g h
    · exact .inr (Nat.le_trans hF.size h)

set_option maxHeartbeats 400000 in
set_option maxRecDepth 100000 in
theorem pile_put_o (pb base : Nat) (v : Value) (l zs : List Int) (p : Option Addr) (n c : Nat) (w : World) (h : PileI pb base v l w) (hz : RdI w w.heap.size p n zs) (hS : ∀ b o, p = some ⟨b, o, none⟩ → 0 < n → ¬ pileF pb v b) (hn : l.length + n < 1000000) :
    Calls Tryz.prog 40 #[.pointer (some ⟨pb, 0, none⟩), .slice p n c] w fun e w' => e = .returned (.tuple #[]) ∧
      ∃ v' l', PileI pb base v' l' w' ∧ l'.Perm (l ++ zs) ∧ Fr (pileF pb v) w w' ∧ (∀ g, v'.ownBlock = some g → Lies v g w.heap.size) ∧ Others pb 0 w w' := by
  have hzl := hz.1
  have hst : PutRelO pb base v l zs w 0 w := ⟨v, l, h, by simp, Fr.refl _ _, fun g hg => .inl hg, fun _ _ => ⟨rfl, rfl⟩⟩
  have HST := Lib.hid hst; clear hst h
  have HZ := Lib.hid hz; clear hz
  have HZL := Lib.hid hzl; clear hzl
  have HS := Lib.hid hS; clear hS
  go_enter Tryz.func40, Tryz.ntmps40
  go_wp2
  go_loopw [5, 10] (fun _ iv wr => ∃ k : Nat, k ≤ n ∧ iv = .int .i64 k ∧ PutRelO pb base v l zs w k wr) (fun _ iv _ => n - (intOf iv).toNat)
  case atStart => exact ⟨0, Nat.zero_le _, rfl, HST.out⟩
  case round =>
    clear HST
    obtain ⟨k, hk, rfl, v1, l1, hI, hp, hF, hL, hOT⟩ := hrel
    have HOT := Lib.hid hOT; clear hOT
    have hlen : l1.length ≤ l.length + k := by rw [hp.length_eq, List.length_append, List.length_take]; omega
    have HL1 := Lib.hid hL; clear hL
    by_cases hlt : k < n
    · obtain ⟨b, o, e, hb, hc⟩ := HZ.out.2 (by omega)
      have hcell := (hF.cell (p := ⟨b, o + k, none⟩) hb (HS.out b o e (by omega))).trans (hc k hlt)
      clear hc
      subst e
      have HP := Lib.hid (heap_push_nums pb 0 base v1 l1 (HL.el zs k) wr hI.1 hI.2 (by omega))
      clear hI
      generalize hx : HL.el zs k = x at *
      have HX := Lib.hid hx; clear hx
      go_wp2_with fail
      refine HP.out.mono ?_
      rintro e w2 ⟨rfl, v2, l2, hI2, hh2, hp2, hF2, hL2, hO2⟩
      have HR : Hid (PutRelO pb base v l zs w (k + 1) w2) := PutRelO.step (by rw [HZL.out]; exact hlt) hp hF HL1.out HOT.out ⟨hI2, hh2⟩ (by rw [HX.out]; exact hp2) hF2 hL2 hO2
      clear hI2 hh2 hp2 hF2 hL2 hO2
      go_wp2
      go_roundw
      case rel => exact ⟨k + 1, by omega, by go_num, HR.out⟩
      case measure => simp [intOf]; omega
    · have : k = n := by omega
      subst this
      go_wp2
      go_end0
      exact ⟨rfl, v1, l1, hI, by rw [List.take_of_length_le (by rw [HZL.out]; omega)] at hp; exact hp, hF, HL1.out, HOT.out⟩
set_option maxHeartbeats 400000 in
set_option maxRecDepth 100000 in
theorem pile_take_o (pb base : Nat) (v : Value) (l : List Int) (w : World) (h : PileI pb base v l w) (hn : 0 < l.length) :
  Calls Tryz.prog 39 #[.pointer (some ⟨pb, 0, none⟩)] w fun e w' => e = .returned (.tuple #[.int .i64 (HL.el l 0), .bool true]) ∧
  ∃ v' l', PileI pb base v' l' w' ∧ (HL.el l 0 :: l').Perm l ∧ Fr (fun k => k = pb ∨ v.ownBlock = some k) w w' ∧ v'.ownBlock = v.ownBlock ∧ Others pb 0 w w' := by
  have HL0 := Lib.hid (pile_len pb base v l w h)
  have HP := Lib.hid (heap_pop_nums pb 0 base v l w h.1 h.2 hn)
  have hne : ((l.length : Int) == 0) = false := by rw [beq_eq_false_iff_ne]; omega
  have hta := ta_int
  clear h
  generalize HL.el l 0 = x at *
  go_enter Tryz.func39, Tryz.ntmps39
  go_wp2_with fail
  refine HL0.out.mono ?_
  rintro e w' ⟨rfl, rfl⟩
  go_wp2_with fail
  refine HP.out.mono ?_
  rintro e w2 ⟨u, rfl, v', l', rfl, hI, hh, hp, hfr, hv', hoth⟩
  have HI := Lib.hid hI
  have HV := Lib.hid hv'
  have HF := Lib.hid hfr
  have HOT := Lib.hid hoth
  clear hI hv' hfr hoth
  go_wp2
  go_ret2
  exact ⟨rfl, v', l', ⟨HI.out, hh⟩, hp, HF.out, HV.out, HOT.out⟩
end Go.Proofs.YtedcpckocedcoaaGreat

