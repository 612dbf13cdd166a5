/- Merged texts: Rf20 Mix3 Rf21 Rf22 Rf23 Rf24 Rf25. -/
import Derived.Test.YtaodldagmmephaaGreatA9
import Derived.Test.YtaodldagmmephaaGreatA1
import Derived.Deep.Quiet
/- raft: State. -/
namespace Go.Proofs.YtaodldagmmephaaGreat
open Go.RowKit Go.Maps
namespace RF
/-- What State tells. -/
def stateV (s : RS) (v : Value) : Value := .agg #[.int .i64 s.id, .int .i64 s.role, .int .i64 s.lead, .int .i64 s.term, .int .i64 s.vote, .int .i64 s.commit, .int .i64 s.b, .int .i64 (lastS s.b s.t s.l).1, .int .i64 (lastS s.b s.t s.l).2, .int .i64 s.elapsed, .int .i64 s.timeout, .int .i64 s.round, v]
section
variable {rb base : Nat} {s : RS} {h : Hd} {w : World} {M : Int} {N : Nat}

set_option maxHeartbeats 2000000 in
set_option maxRecDepth 100000 in
theorem rf_state (H : Rf rb base s h w) (B : RB M N s) :
    Calls Tryz.prog 16 #[.pointer (some ⟨rb, 0, none⟩)] w fun e w' => ∃ v, e = .returned (stateV s v) ∧ w'.ownsRow w.heap.size 3 1 v s.all.length (rowOf ncells s.all) ∧ Below w.heap.size w w' := by
  have HH := Lib.hid H
  have hrl := H.rlt
  have HBX : Hid (Below w.heap.size w (w.alloc (.cells #[.int .i64 0, .int .i64 0, .int .i64 0, .int .i64 0, .int .i64 0, .int .i64 0, .int .i64 0, .int .i64 0, .int .i64 0, .int .i64 0, .int .i64 0, .int .i64 0, .slice none 0 0] 41))) := Lib.hid ((Below.refl _ w).alloc (Nat.le_refl _) _)
  have HSZ : Hid ((w.alloc (.cells #[.int .i64 0, .int .i64 0, .int .i64 0, .int .i64 0, .int .i64 0, .int .i64 0, .int .i64 0, .int .i64 0, .int .i64 0, .int .i64 0, .int .i64 0, .int .i64 0, .slice none 0 0] 41)).heap.size = w.heap.size + 1) := Lib.hid (World.size_alloc _ _)
  have X2 := Lib.hid (CBox.fresh w [.int .i64 0, .int .i64 0, .int .i64 0, .int .i64 0, .int .i64 0, .int .i64 0, .int .i64 0, .int .i64 0, .int .i64 0, .int .i64 0, .int .i64 0, .int .i64 0, .slice none 0 0] 41)
  have HRb := Lib.hid (H.below HBX.out)
  have HNO := Lib.hid (rf_none HRb.out)
  have HBB := Lib.hid B
  have HLL := Lib.hid (fun (W : World) (hW : Below w.heap.size w W) => lg_last ((H.below hW).all .log))
  unfold stateV
  obtain ⟨li, hli⟩ : ∃ x, (lastS s.b s.t s.l).1 = x := ⟨_, rfl⟩
  obtain ⟨lt, hlt⟩ : ∃ x, (lastS s.b s.t s.l).2 = x := ⟨_, rfl⟩
  rw [hli, hlt] at HLL ⊢
  clear hli hlt
  clear H B
  go_enter Tryz.func16, Tryz.ntmps16
  go_upto_region 1 with fail
  dsimp only [List.toArray] at X2
  generalize w.alloc (.cells #[.int .i64 0, .int .i64 0, .int .i64 0, .int .i64 0, .int .i64 0, .int .i64 0, .int .i64 0, .int .i64 0, .int .i64 0, .int .i64 0, .int .i64 0, .int .i64 0, .slice none 0 0] 41) = Wb at *
  go_upto_region 3 with (with_reducible refine HNO.out.mono ?_; rintro e Wb ⟨rfl, rfl⟩)
  have c10 : Wb.cell? ⟨rb, 10, none⟩ = some (.pointer (some ⟨h.xb, 0, none⟩)) := HRb.out.cell 10 rfl
  clear HNO
  have HLA := Lib.hid (HLL.out Wb HBX.out)
  go_upto_region 4 with (with_reducible refine HLA.out.mono ?_; rintro e W3 ⟨rfl, hb3⟩)
  have HB3 := Lib.hid (HBX.out.trans (hb3.mono HBX.out.size))
  have HX3 := Lib.hid (X2.out.below hb3)
  have HW3 := Lib.hid hb3.size
  have HR3 := Lib.hid (HRb.out.below hb3)
  have q0 : ∀ q : Later W3, q.1.cell? ⟨rb, 0, none⟩ = some (.int .i64 s.id) := HR3.out.q 0 rfl
  have q1 : ∀ q : Later W3, q.1.cell? ⟨rb, 1, none⟩ = some (.int .i64 s.role) := HR3.out.q 1 rfl
  have q2 : ∀ q : Later W3, q.1.cell? ⟨rb, 2, none⟩ = some (.int .i64 s.lead) := HR3.out.q 2 rfl
  have q3 : ∀ q : Later W3, q.1.cell? ⟨rb, 3, none⟩ = some (.int .i64 s.term) := HR3.out.q 3 rfl
  have q4 : ∀ q : Later W3, q.1.cell? ⟨rb, 4, none⟩ = some (.int .i64 s.vote) := HR3.out.q 4 rfl
  have q5 : ∀ q : Later W3, q.1.cell? ⟨rb, 5, none⟩ = some (.int .i64 s.commit) := HR3.out.q 5 rfl
  have q6 : ∀ q : Later W3, q.1.cell? ⟨rb, 6, none⟩ = some (.int .i64 s.elapsed) := HR3.out.q 6 rfl
  have q7 : ∀ q : Later W3, q.1.cell? ⟨rb, 7, none⟩ = some (.int .i64 s.timeout) := HR3.out.q 7 rfl
  have q8 : ∀ q : Later W3, q.1.cell? ⟨rb, 8, none⟩ = some (.int .i64 s.round) := HR3.out.q 8 rfl
  have HBA := Lib.hid (fun (W : World) (hW : Below W3.heap.size W3 W) => rf_base (HR3.out.below hW))
  have HAL := Lib.hid (fun (W : World) (hW : Below W3.heap.size W3 W) => rf_all (HR3.out.below hW) HBB.out.da)
  have HVA := Lib.hid HBB.out.all.2.1
  clear hb3 c10 HLA HLL HBB
  go_upto_region 4 with fail
  refine Mix.region_mix (n := 44) (m := 5) (fun V => ∃ q : Later W3, V = q.1) [0, 1, 2, 3, 4, 5, 6, 7, 8, 9, 10, 11, 12, 13, 14, 15, 16, 17, 18, 19, 20, 21, 22, 23, 24, 26, 27, 28, 29, 30, 31, 32, 33, 34, 35, 36, 37, 38, 39, 40] (by kernel_rfl) rfl rfl (by kernel_rfl) (by kernel_rfl) ⟨⟨_, (Below.refl _ _).drew⟩, rfl⟩ ?_
  repeat (refine Mix.picks_step rfl ?_; go_big_quiet_step (fail))
  refine Mix.picks_nil ?_
  intro inv
  refine sink_one (i := 25) (by kernel_rfl) rfl (by omega) inv (fun K hK => ?_)
  have HKK := Lib.hid hK
  clear hK
  go_simp
  with_reducible refine (HBA.out _ (Below.refl _ _).drew).mono ?_
  rintro e W4 ⟨rfl, hb4⟩
  have HB4 : Hid (Below W3.heap.size W3 W4) := Lib.hid ((Below.refl _ _).drew.trans (hb4.mono (Nat.le_refl _)))
  clear hb4
  refine HKK.out _ _ ⟨⟨_, HB4.out⟩, rfl⟩ ?_
  clear HKK inv
  intro hS inv
  (try simp only [Act.put]); (try simp only [List.setIfInBounds_toArray]); (try simp only [List.set_cons_succ]); (try simp only [List.set_cons_zero])
  refine sink_one (i := 41) (by kernel_rfl) rfl (by omega) inv (fun K hK => ?_)
  have HKK := Lib.hid hK
  clear hK
  go_simp
  with_reducible refine (HAL.out _ HB4.out).mono ?_
  rintro e W5 ⟨v5, rfl, ho5, hb5⟩
  obtain ⟨p5, c5, hv5⟩ := owns_slice ho5
  subst hv5
  have HB5 : Hid (Below W3.heap.size W3 W5) := Lib.hid (HB4.out.trans (hb5.mono HB4.out.size))
  have HCL := Lib.hid (clone_ints p5 s.all.length c5 s.all W5 (RdI.of_own ho5 rfl) (by have := HVA.out; omega))
  clear ho5 hb5
  refine HKK.out _ _ ⟨⟨_, HB5.out⟩, rfl⟩ ?_
  clear HKK inv
  intro hS inv
  (try simp only [Act.put]); (try simp only [List.setIfInBounds_toArray]); (try simp only [List.set_cons_succ]); (try simp only [List.set_cons_zero])
  refine sink_one (i := 42) (by kernel_rfl) rfl (by omega) inv (fun K hK => ?_)
  have HKK := Lib.hid hK
  clear hK
  go_simp
  with_reducible refine (HCL.out).mono ?_
  rintro e W6 ⟨v6, rfl, ho6, hb6⟩
  obtain ⟨p6, c6, hv6⟩ := owns_slice ho6
  subst hv6
  have HB6 : Hid (Below W3.heap.size W3 W6) := Lib.hid (HB5.out.trans (hb6.mono HB5.out.size))
  have HO6 : Hid (W6.ownsRow (w.heap.size + 1) 3 1 (.slice p6 s.all.length c6) s.all.length (rowOf ncells s.all)) := Lib.hid (own_lo ho6 (by have h1 := HB5.out.size; have h2 := HSZ.out; have h3 := HW3.out; omega))
  clear ho6 hb6
  refine HKK.out _ _ ⟨⟨_, HB6.out⟩, rfl⟩ ?_
  clear HKK inv
  intro hS inv
  (try simp only [Act.put]); (try simp only [List.setIfInBounds_toArray]); (try simp only [List.set_cons_succ]); (try simp only [List.set_cons_zero])
  have hx : CBox w.heap.size [.int .i64 0, .int .i64 0, .int .i64 0, .int .i64 0, .int .i64 0, .int .i64 0, .int .i64 0, .int .i64 0, .int .i64 0, .int .i64 0, .int .i64 0, .int .i64 0, .slice none 0 0] W6 := HX3.out.below HB6.out
  have t0 := hx.1 0 _ rfl
  have u0 := hx.2.1 0 (by show 0 < 13; omega)
  have t1 := hx.1 1 _ rfl
  have u1 := hx.2.1 1 (by show 1 < 13; omega)
  have t2 := hx.1 2 _ rfl
  have u2 := hx.2.1 2 (by show 2 < 13; omega)
  have t3 := hx.1 3 _ rfl
  have u3 := hx.2.1 3 (by show 3 < 13; omega)
  have t4 := hx.1 4 _ rfl
  have u4 := hx.2.1 4 (by show 4 < 13; omega)
  have t5 := hx.1 5 _ rfl
  have u5 := hx.2.1 5 (by show 5 < 13; omega)
  have t6 := hx.1 6 _ rfl
  have u6 := hx.2.1 6 (by show 6 < 13; omega)
  have t7 := hx.1 7 _ rfl
  have u7 := hx.2.1 7 (by show 7 < 13; omega)
  have t8 := hx.1 8 _ rfl
  have u8 := hx.2.1 8 (by show 8 < 13; omega)
  have t9 := hx.1 9 _ rfl
  have u9 := hx.2.1 9 (by show 9 < 13; omega)
  have t10 := hx.1 10 _ rfl
  have u10 := hx.2.1 10 (by show 10 < 13; omega)
  have t11 := hx.1 11 _ rfl
  have u11 := hx.2.1 11 (by show 11 < 13; omega)
  have t12 := hx.1 12 _ rfl
  have u12 := hx.2.1 12 (by show 12 < 13; omega)
  clear hx HX3 q0 q1 q2 q3 q4 q5 q6 q7 q8
  refine Mix.more2 [43] (m := 1) rfl (by kernel_rfl) (by kernel_rfl) inv ⟨⟨_, HB6.out⟩, rfl⟩ (Mix.picks_cons rfl Mix.picks_end) ?_
  repeat (go_big_quiet_step (fail))
  refine wpQuiet_nil ?_
  clear inv
  intro inv
  refine sink_last (by kernel_rfl) rfl (by kernel_rfl) (fun K hK => ?_)
  have HKK := Lib.hid hK
  clear hK
  go_simp
  refine HKK.out _ _ ⟨rfl, ?_⟩
  clear HKK inv hS
  go_wp2_with fail
  refine bodyPost_ret (results_cell1 rfl _ _ _ ⟨w.heap.size, 0, none⟩ (.agg #[.int .i64 s.id, .int .i64 s.role, .int .i64 s.lead, .int .i64 s.term, .int .i64 s.vote, .int .i64 s.commit, .int .i64 s.b, .int .i64 li, .int .i64 lt, .int .i64 s.elapsed, .int .i64 s.timeout, .int .i64 s.round, .slice p6 s.all.length c6]) rfl (by go_simp)) rfl ?_
  have hb : Below w.heap.size w W6 := HB3.out.trans (HB6.out.mono HB3.out.size)
  refine ⟨_, rfl, own_lo (Fr.owns (Fr.setCell (Fr.setCell (Fr.setCell (Fr.setCell (Fr.setCell (Fr.setCell (Fr.setCell (Fr.setCell (Fr.setCell (Fr.setCell (Fr.setCell (Fr.setCell (Fr.setCell (Fr.refl (fun k => k = w.heap.size) W6) (p := ⟨w.heap.size, 0, none⟩) (fun _ => rfl) (.int .i64 s.id)) (p := ⟨w.heap.size, 1, none⟩) (fun _ => rfl) (.int .i64 s.role)) (p := ⟨w.heap.size, 2, none⟩) (fun _ => rfl) (.int .i64 s.lead)) (p := ⟨w.heap.size, 3, none⟩) (fun _ => rfl) (.int .i64 s.term)) (p := ⟨w.heap.size, 4, none⟩) (fun _ => rfl) (.int .i64 s.vote)) (p := ⟨w.heap.size, 5, none⟩) (fun _ => rfl) (.int .i64 s.commit)) (p := ⟨w.heap.size, 6, none⟩) (fun _ => rfl) (.int .i64 s.b)) (p := ⟨w.heap.size, 7, none⟩) (fun _ => rfl) (.int .i64 (li))) (p := ⟨w.heap.size, 8, none⟩) (fun _ => rfl) (.int .i64 (lt))) (p := ⟨w.heap.size, 9, none⟩) (fun _ => rfl) (.int .i64 s.elapsed)) (p := ⟨w.heap.size, 10, none⟩) (fun _ => rfl) (.int .i64 s.timeout)) (p := ⟨w.heap.size, 11, none⟩) (fun _ => rfl) (.int .i64 s.round)) (p := ⟨w.heap.size, 12, none⟩) (fun _ => rfl) (.slice p6 s.all.length c6)) HO6.out (fun k hk e => ?_)) (Nat.le_succ _), (((((((((((((hb).setCell (p := ⟨w.heap.size, 0, none⟩) (Nat.le_refl _) (.int .i64 s.id)).setCell (p := ⟨w.heap.size, 1, none⟩) (Nat.le_refl _) (.int .i64 s.role)).setCell (p := ⟨w.heap.size, 2, none⟩) (Nat.le_refl _) (.int .i64 s.lead)).setCell (p := ⟨w.heap.size, 3, none⟩) (Nat.le_refl _) (.int .i64 s.term)).setCell (p := ⟨w.heap.size, 4, none⟩) (Nat.le_refl _) (.int .i64 s.vote)).setCell (p := ⟨w.heap.size, 5, none⟩) (Nat.le_refl _) (.int .i64 s.commit)).setCell (p := ⟨w.heap.size, 6, none⟩) (Nat.le_refl _) (.int .i64 s.b)).setCell (p := ⟨w.heap.size, 7, none⟩) (Nat.le_refl _) (.int .i64 (li))).setCell (p := ⟨w.heap.size, 8, none⟩) (Nat.le_refl _) (.int .i64 (lt))).setCell (p := ⟨w.heap.size, 9, none⟩) (Nat.le_refl _) (.int .i64 s.elapsed)).setCell (p := ⟨w.heap.size, 10, none⟩) (Nat.le_refl _) (.int .i64 s.timeout)).setCell (p := ⟨w.heap.size, 11, none⟩) (Nat.le_refl _) (.int .i64 s.round)).setCell (p := ⟨w.heap.size, 12, none⟩) (Nat.le_refl _) (.slice p6 s.all.length c6)⟩
  have h1 := (HO6.out.lt k hk).1
  omega
end
end RF
end Go.Proofs.YtaodldagmmephaaGreat

/- A region that draws its order, whose last operation waits for all others: those that only read are taken first, all at one stroke; the loud ones come behind them. No program in sight. -/
namespace Go.Proofs.YtaodldagmmephaaGreat
open Go.RowKit

namespace Mix3
/-- Operations that leave the world as it is and call nothing. -/
def pureB (o : Oper) : Bool := match o.op with
  | .move _ => true
  | .assign _ => true
  | .load _ _ => true
  | .build _ _ => true
  | .binOp _ _ _ _ _ => true
  | .unOp _ _ _ => true
  | .slice _ _ _ _ _ => true
  | .fieldAddr _ _ _ => true
  | .field _ _ _ => true
  | .indexAddr _ _ _ => true
  | .extract _ _ => true
  | .pick _ _ _ => true
  | .nilCheck _ => true
  | .call c => match c.callee with
    | .builtin .len => true
    | .builtin .max => true
    | .builtin .min => true
    | _ => false
  | _ => false

theorem of_v {P : Program} {w w' : World} {n : Next} {s : Sem Value} (e : (do pure (Next.value (← s)) : Sem Next).run P w = .ok n w') : ∃ u, n = .value u := by
  simp only [Sem.run_bind, Sem.run_pure] at e
  cases h : s.run P w with
  | ok x w2 =>
    rw [h] at e
    simp only [Result.andThen_ok] at e
    injection e with e1 _
    exact ⟨x, e1.symm⟩
  | halt x w2 =>
    rw [h] at e
    cases e

/-- Whatever comes of it is a value. -/
def NV (s : Sem Next) : Prop := ∀ (P : Program) (w w' : World) (n : Next), s.run P w = .ok n w' → ∃ u, n = .value u
theorem NV.pure (u : Value) : NV (pure (.value u)) := fun P w w' n e => by
  simp only [Sem.run_pure] at e
  injection e with e _
  exact ⟨_, e.symm⟩
theorem NV.bind {α : Type} {s : Sem α} {f : α → Sem Next} (h : ∀ x, NV (f x)) : NV (s >>= f) := fun P w w' n e => by
  simp only [Sem.run_bind] at e
  cases hs : s.run P w with
  | ok x w2 =>
    rw [hs] at e
    simp only [Result.andThen_ok] at e
    exact h x P w2 w' n e
  | halt x w2 =>
    rw [hs] at e
    cases e
theorem NV.v (s : Sem Value) : NV (do Pure.pure (Next.value (← s))) := NV.bind fun x => NV.pure x
theorem NV.ite {c : Prop} [Decidable c] {s t : Sem Next} (h1 : NV s) (h2 : NV t) : NV (if c then s else t) := by
  split
  · exact h1
  · exact h2
theorem NV.panic : NV (runtimePanic .nilDeref) := fun P w w' n h => by
  simp [runtimePanic, goPanic, go_sem] at h

theorem pure_nv {o : Oper} {r : Operand → Value} (h : pureB o = true) : NV (execOp r o) := by
  obtain ⟨d, op, ty, pos, af, g⟩ := o
  unfold pureB at h
  unfold execOp
  cases op
  all_goals first
    | (cases h; done)
    | exact NV.pure _
    | exact NV.v _
    | exact NV.bind fun x => NV.pure _
    | skip
  case nilCheck x =>
    dsimp only
    split
    all_goals first
      | exact NV.panic
      | exact NV.pure _
      | skip
    split
    all_goals first
      | exact NV.panic
      | exact NV.pure _
      | skip
    exact NV.bind fun x => NV.bind fun y => NV.ite (NV.bind fun _ => NV.pure _) (NV.pure _)
  case call c =>
    obtain ⟨callee, args, ats⟩ := c
    cases callee
    case builtin b =>
      cases b
      all_goals first
        | (cases h; done)
        | skip
      all_goals
        intro P w w' n e
        simp only [resolve, invoke, Sem.run_bind, Sem.run_pure, Result.andThen_ok] at e
        exact NV.v _ P w w' n e
    all_goals cases h

section
variable {P : Program} {ops : Array Oper} {Q : Exit → Act → World → Prop} {md : Region.Mode} {S : World → Prop}

/-- Those at ks may be taken first, one behind the other. -/
def takeOk (md : Region.Mode) (ops : Array Oper) (n : Nat) : List Nat → Array Bool → Bool
  | [], _ => true
  | k :: ks, listed => decide (k < n) && Region.free md ops listed k && (Region.ready md ops listed).contains k && (match ops[k]? with | some o => pureB o | none => false) && takeOk md ops n ks (listed.setIfInBounds k true)
def nth : List Oper → Nat → Option Oper
  | [], _ => none
  | o :: _, 0 => some o
  | _ :: l, k + 1 => nth l k
theorem nth_eq : ∀ (l : List Oper) (k : Nat), nth l k = l.toArray[k]?
  | [], _ => by simp [nth]
  | o :: l, 0 => by simp [nth]
  | o :: l, k + 1 => by rw [nth, nth_eq l k]; simp
def picks (l : List Oper) (ks : List Nat) : List Oper := ks.filterMap fun k => l.toArray[k]?
theorem picks_step {l : List Oper} {C : World → Prop} {K : Act → Prop} {a : Act} {k : Nat} {ks : List Nat} {o : Oper} (h : nth l k = some o) (hw : wpQuiet P l.toArray C K (o :: picks l ks) a) : wpQuiet P l.toArray C K (picks l (k :: ks)) a := by
  rw [nth_eq] at h
  unfold picks at hw ⊢
  rw [List.filterMap_cons, h]
  exact hw
theorem picks_nil {l : List Oper} {C : World → Prop} {K : Act → Prop} {a : Act} (h : K a) : wpQuiet P l.toArray C K (picks l []) a := h
def setAll (ks : List Nat) (listed : Array Bool) : Array Bool := ks.foldl (fun l k => l.setIfInBounds k true) listed

theorem quiet_yields {o : Oper} {a : Act} {K : Act → Prop} (hp : pureB o = true) (hw : Region.wanted o (yielded ops a.tmps) = true) (h : o.quiet P a S K) : ∃ v, YieldsIf P ops S o v a ∧ K (a.put o.dst v) := by
  obtain ⟨v, h1, h2⟩ := h
  refine ⟨v, .inl ⟨hw, fun w hw2 => ?_⟩, h2⟩
  have h3 := h1 w hw2
  unfold Oper.quietAt at h3
  cases hr : (execOp a.eval o).run P w with
  | ok n w' =>
    obtain ⟨u, rfl⟩ := pure_nv hp P w w' n hr
    rw [hr] at h3
    simp only [Oper.quietUpon] at h3
    rw [h3.1, h3.2]
  | halt x w' =>
    rw [hr] at h3
    simp only [Oper.quietUpon] at h3

theorem sink_bulk {n : Nat} (hB : (Region.sinkB md ops n && Region.chainB md ops n && decide (n < ops.size) && Region.noSelect ops) = true) (hQ : ∀ c a d v w, Q (.panic c) (Act.put a d v) w → Q (.panic c) a w) :
    ∀ (ks : List Nat) (listed : Array Bool) (a : Act) (w : World) (fuel : Nat), takeOk md ops n ks listed = true → HeadInv md ops n listed → S w →
      wpQuiet P ops S (fun a' => HeadInv md ops n (setAll ks listed) → WpSink P md ops Q S n fuel (setAll ks listed) a' w) (ks.filterMap fun k => ops[k]?) a → WpSink P md ops Q S n (ks.length + fuel) listed a w
  | [], listed, a, w, fuel, _, inv, _, h => by
    rw [List.length_nil, Nat.zero_add]
    exact h inv
  | k :: ks, listed, a, w, fuel, ht, inv, hS, h => by
    simp only [takeOk, Bool.and_eq_true] at ht
    obtain ⟨⟨⟨⟨hk, hf⟩, hr⟩, hp⟩, ht⟩ := ht
    have hkn : k < n := of_decide_eq_true hk
    have hB' := hB
    simp only [Bool.and_eq_true, decide_eq_true_eq] at hB'
    obtain ⟨⟨⟨h1, h2⟩, h3⟩, h5⟩ := hB'
    cases ho : ops[k]? with
    | none => rw [ho] at hp; cases hp
    | some o =>
      rw [ho] at hp
      have hp' : pureB o = true := hp
      simp only [List.filterMap_cons, ho] at h
      have hrk : k ∈ Region.ready md ops listed := by simpa using hr
      have e : (k :: ks).length + fuel = (ks.length + fuel) + 1 := by rw [List.length_cons]; omega
      rw [e]
      unfold wpQuiet at h
      have key : ∃ v, YieldsIf P ops S o v a ∧ wpQuiet P ops S (fun a' => HeadInv md ops n (setAll (k :: ks) listed) → WpSink P md ops Q S n fuel (setAll (k :: ks) listed) a' w) (ks.filterMap fun k => ops[k]?) (a.put o.dst v) := by
        by_cases hw : Region.wanted o (yielded ops a.tmps) = true
        · rw [if_pos hw] at h
          exact quiet_yields hp' hw h
        · rw [if_neg hw] at h
          exact ⟨undef, .inr ⟨by simpa using hw, rfl⟩, h⟩
      obtain ⟨v, hy, hK⟩ := key
      exact sink_first h1 h2 h3 hkn ho (Region.noSelect_spec h5) (fun c a w => hQ c a _ _ w) (ks.length + fuel) listed a w inv (Region.free_spec ho hf) hrk hy hS
        (sink_bulk hB hQ ks _ _ w fuel ht (inv.set hrk hkn) hS hK)

theorem wp_norm {c : Code} {a : Act} {w : World} (h : c.wp P (fun e a W => e = .normal ∧ Q .normal a W) a w) : c.wp P Q a w := Code.wp_mono (by rintro e a W ⟨rfl, h⟩; exact h) h

/-- A region: those at ks, that only read, first; then as XSink goes. -/
theorem region_mix {id n m : Nat} {l : List Oper} {a : Act} {w : World} (S : World → Prop) (ks : List Nat) (hm : P.follows .mixedOrders = true) (hsz : l.toArray.size = n + 1) (hm2 : ks.length + m = n + 1)
    (hB : (Region.sinkB .any l.toArray n && Region.chainB .any l.toArray n && decide (n < l.toArray.size) && Region.noSelect l.toArray) = true) (ht : takeOk .any l.toArray n ks (Array.replicate (n + 1) false) = true) (hS0 : S w.drew)
    (h : wpQuiet P l.toArray S (fun a' => HeadInv .any l.toArray n (setAll ks (Array.replicate (n + 1) false)) → WpSink P .any l.toArray (fun e a W => e = .normal ∧ Q .normal a W) S n m (setAll ks (Array.replicate (n + 1) false)) a' w.drew) (picks l ks) a) : (Code.region id l.toArray true).wp P Q a w :=
  wp_norm (region_sink (n := n) S hm hsz hS0 (fun inv hS => by
    rw [hsz] at inv
    have := sink_bulk hB (fun _ _ _ _ _ h => by cases h.1) ks (Array.replicate (n + 1) false) a w.drew m ht inv hS h
    rw [hm2] at this
    exact this))
end
end Mix3
end Go.Proofs.YtaodldagmmephaaGreat

/- raft: New. -/
namespace Go.Proofs.YtaodldagmmephaaGreat
open Go.RowKit Go.Maps
namespace RF
set_option maxRecDepth 100000 in
theorem is_id (i : Int) (w : World) : Calls Tryz.prog 42 #[.int .i64 i] w fun e w' => e = .returned (.bool (decide (1 ≤ i ∧ i ≤ 64))) ∧ w' = w := by
  by_cases h1 : 1 ≤ i
  · have d1 : decide (1 ≤ i) = true := decide_eq_true h1
    by_cases h2 : i ≤ 64
    · have d2 : decide (i ≤ 64) = true := decide_eq_true h2
      have d3 : decide (1 ≤ i ∧ i ≤ 64) = true := decide_eq_true ⟨h1, h2⟩
      rw [d3]
      clear d3
      go_enter Tryz.func42, Tryz.ntmps42
      go_wp2
      go_ret
      exact ⟨rfl, rfl⟩
    · have d2 : decide (i ≤ 64) = false := decide_eq_false h2
      have d3 : decide (1 ≤ i ∧ i ≤ 64) = false := decide_eq_false (fun h => h2 h.2)
      rw [d3]
      clear d3
      go_enter Tryz.func42, Tryz.ntmps42
      go_wp2
      go_ret
      exact ⟨rfl, rfl⟩
  · have d1 : decide (1 ≤ i) = false := decide_eq_false h1
    have d3 : decide (1 ≤ i ∧ i ≤ 64) = false := decide_eq_false (fun h => h1 h.1)
    rw [d3]
    clear d3
    go_enter Tryz.func42, Tryz.ntmps42
    go_wp2
    go_ret
    exact ⟨rfl, rfl⟩
theorem rdg_wide {α : Type} {cs : α → List Value} {W : World} {B B' : Nat} {p : Option Addr} {n : Nat} {l : List α} (h : RdG cs W B p n l) (hB : B ≤ B') : RdG cs W B' p n l :=
  ⟨h.1, fun hn => by obtain ⟨b, o, e, hb, hc⟩ := h.2 hn; exact ⟨b, o, e, by omega, hc⟩⟩
theorem rdi_wide {W : World} {B B' : Nat} {p : Option Addr} {n : Nat} {l : List Int} (h : RdI W B p n l) (hB : B ≤ B') : RdI W B' p n l :=
  ⟨h.1, fun hn => by obtain ⟨b, o, e, hb, hc⟩ := h.2 hn; exact ⟨b, o, e, by omega, hc⟩⟩
/-- What New takes. -/
def newR (id term vote commit ix tm : Int) (ms : List Int) (l : List En) : Prop := newOk ix tm l = true ∧ (1 ≤ id ∧ id ≤ 64) ∧ 0 ≤ term ∧ 0 ≤ vote ∧ 0 ≤ commit ∧ term ≤ 1152921504606846976 ∧ CL.Valid ms ∧ (lastS ix tm l).2 ≤ term
/-- What New makes. -/
def new0 (id term vote commit ix tm : Int) (ms : List Int) (l : List En) : RS :=
  ⟨id, 0, 0, term, vote, min (max commit ix) (lastS ix tm l).1, 0, 10 + id, 0, ms, ix, tm, l, [], [], ot0⟩
theorem new_fin {id term vote commit ix tm : Int} {ms : List Int} {l : List En} {W : World} {B0 A xb mb rb : Nat} {v sv : Value} (HL : Lg xb B0 ix tm v l W) (hA : ∀ k, lgF xb v k → k < A) (hs : W.ownsRow A 3 1 sv ms.length (rowOf ncells ms))
    (hsm : sv.ownBlock ≠ some mb) (hsr : sv.ownBlock ≠ some rb) (hm : heldM mb 0 [] W) (hma : A ≤ mb) (hmr : mb ≠ rb) (hra : A ≤ rb) (hB : B0 ≤ A) (hc : CBox rb (cells (new0 id term vote commit ix tm ms l) ⟨xb, v, sv, mb, nilv, nilv, [], nilv, []⟩) W) :
    Rf rb B0 (new0 id term vote commit ix tm ms l) ⟨xb, v, sv, mb, nilv, nilv, [], nilv, []⟩ W := by
  refine ⟨fun p => ?_, fun p q k hp hq => ?_, by have := hc.2.2; omega⟩
  · cases p with
    | core => exact ⟨hc.1, hc.2.1, by omega⟩
    | log => exact HL
    | snap => exact own_lo hs hB
    | map => exact ⟨hm, by show B0 ≤ mb; omega⟩
    | peers => exact ⟨fun x hx => absurd hx List.not_mem_nil, rfl, List.nodup_nil⟩
    | votes => exact World.ownsRow_nil _ _ _ _
    | msgs => exact ⟨World.ownsRow_nil _ _ _ _, rfl⟩
    | ents => exact fun x hx => absurd hx List.not_mem_nil
    | need => exact World.ownsRow_nil _ _ _ _
  · have key : ∀ p, part rb ⟨xb, v, sv, mb, nilv, nilv, [], nilv, []⟩ p k → (p = .core ∧ k = rb) ∨ (p = .log ∧ k < A) ∨ (p = .snap ∧ A ≤ k ∧ k ≠ mb ∧ k ≠ rb) ∨ (p = .map ∧ k = mb) := by
      intro p hp
      cases p with
      | core => exact .inl ⟨rfl, hp⟩
      | log => exact .inr (.inl ⟨rfl, hA k hp⟩)
      | snap => exact .inr (.inr (.inl ⟨rfl, (hs.lt k hp).1, fun e => hsm (by rw [← e]; exact hp), fun e => hsr (by rw [← e]; exact hp)⟩))
      | map => exact .inr (.inr (.inr ⟨rfl, hp⟩))
      | peers => obtain ⟨x, hx, _⟩ := hp; exact absurd hx List.not_mem_nil
      | votes => exact absurd hp (by rintro ⟨⟩)
      | msgs => exact absurd hp (by rintro ⟨⟩)
      | ents => obtain ⟨x, hx, _⟩ := hp; exact absurd hx List.not_mem_nil
      | need => exact absurd hp (by rintro ⟨⟩)
    rcases key p hp with ⟨e1, h1⟩ | ⟨e1, h1⟩ | ⟨e1, h1⟩ | ⟨e1, h1⟩ <;> rcases key q hq with ⟨e2, h2⟩ | ⟨e2, h2⟩ | ⟨e2, h2⟩ | ⟨e2, h2⟩ <;> first | (rw [e1, e2]; done) | (exfalso; omega)
section
variable {rb base : Nat} {s : RS} {h : Hd} {w : World} {M : Int} {N : Nat}

set_option maxHeartbeats 2000000 in
set_option maxRecDepth 100000 in
theorem rf_new (id term vote commit ix tm : Int) (ms : List Int) (pm : Option Addr) (cm : Nat) (l : List En) (p : Option Addr) (n c : Nat) (hw2 : commit ≤ 9223372036854775807) (hw3 : ix ≤ 4611686018427387904)
    (HM : RdI w w.heap.size pm ms.length ms) (HE : RdG ecells w w.heap.size p n l) (hp : (∃ b o, p = some ⟨b, o, none⟩) ∨ p = none ∧ c = 0) (hn : n ≤ 10000) (hd : ∀ i, i < n → (HL.el l i).da.size ≤ 2000000) (hok : newR id term vote commit ix tm ms l) :
    Calls Tryz.prog 14 #[.int .i64 id, .agg #[.int .i64 term, .int .i64 vote, .int .i64 commit], .agg #[.int .i64 ix, .int .i64 tm, .slice pm ms.length cm], .slice p n c] w fun e w' => ∃ rb h B0, e = .returned (.tuple #[.pointer (some ⟨rb, 0, none⟩), .int .i64 0]) ∧ h.clean ∧ w.heap.size ≤ B0 ∧ Rf rb B0 (new0 id term vote commit ix tm ms l) h w' ∧ Below w.heap.size w w' := by
  obtain ⟨h1, h2, h3, h4, h5, h6, h7, h8⟩ := hok
  have HNW := Lib.hid (fun (W : World) (hW : Below w.heap.size w W) => lg_new ix tm p n c l W (rdg_wide (HE.below hW) hW.size) hp hw3 hn hd h1)
  have HID := Lib.hid (fun (W : World) => is_id id W)
  have d0 : decide (1 ≤ id ∧ id ≤ 64) = true := decide_eq_true h2
  rw [d0] at HID
  have HVA := Lib.hid (fun (W : World) (hW : Below w.heap.size w W) => valid_ints pm ms.length cm w.heap.size ms W (HM.below hW))
  have e1 : decide (term < 0) = false := decide_eq_false (Int.not_lt.2 h3)
  have e2 : decide (vote < 0) = false := decide_eq_false (Int.not_lt.2 h4)
  have e3 : decide (commit < 0) = false := decide_eq_false (Int.not_lt.2 h5)
  have dt : decide (1152921504606846976 < term) = false := decide_eq_false (by omega)
  have HV := Lib.hid h7
  have HX5 := Lib.hid (CBox.fresh w [.int .i64 term, .int .i64 vote, .int .i64 commit] 31)
  clear HE hp hd d0
  go_enter Tryz.func14, Tryz.ntmps14
  go_upto_region 1 with fail
  have B1 : Below w.heap.size w (w.alloc (.cells #[.int .i64 term, .int .i64 vote, .int .i64 commit] 31)) := (Below.refl _ w).alloc (Nat.le_refl _) _
  have hs1 : (w.alloc (.cells #[.int .i64 term, .int .i64 vote, .int .i64 commit] 31)).heap.size = w.heap.size + 1 := World.size_alloc _ _
  have X6 := CBox.fresh (w.alloc (.cells #[.int .i64 term, .int .i64 vote, .int .i64 commit] 31)) [.int .i64 ix, .int .i64 tm, .slice pm ms.length cm] 34
  have B2 := B1.alloc B1.size (.cells #[.int .i64 ix, .int .i64 tm, .slice pm ms.length cm] 34)
  have X5 := HX5.out.below ((Below.refl _ (w.alloc (.cells #[.int .i64 term, .int .i64 vote, .int .i64 commit] 31))).alloc (Nat.le_refl _) (.cells #[.int .i64 ix, .int .i64 tm, .slice pm ms.length cm] 34))
  rw [hs1] at X6
  dsimp only [List.toArray] at X5 X6
  clear HX5 B1 hs1
  have HB2 := Lib.hid B2
  have HX5 := Lib.hid X5
  have HX6 := Lib.hid X6
  have a0 := X6.1 0 _ rfl
  have a1 := X6.1 1 _ rfl
  clear B2 X5 X6
  generalize (w.alloc (.cells #[.int .i64 term, .int .i64 vote, .int .i64 commit] 31)).alloc (.cells #[.int .i64 ix, .int .i64 tm, .slice pm ms.length cm] 34) = W0 at *
  have HN0 := Lib.hid (HNW.out W0 HB2.out)
  have HW0 := Lib.hid HB2.out.size
  go_upto_region 2 with (with_reducible refine HN0.out.mono ?_; rintro e w1 ⟨xb, v, rfl, hl1, hb1⟩)
  have HB1 := Lib.hid (HB2.out.trans (hb1.mono HB2.out.size))
  have HL1 := Lib.hid hl1
  have X5 := HX5.out.below hb1
  have X6 := HX6.out.below hb1
  have b0 := X5.1 0 _ rfl
  have b1 := X5.1 1 _ rfl
  have b2 := X5.1 2 _ rfl
  have b6 := X6.1 2 _ rfl
  have HX5 := Lib.hid X5
  have HX6 := Lib.hid X6
  have HV1 := Lib.hid (HVA.out w1 HB1.out)
  have HI1 := Lib.hid (HID.out w1)
  clear hl1 hb1 a0 a1 X5 X6 HN0 HNW HVA HID HB2
  have HP := Lib.hid (And.intro h1 (And.intro h2 (And.intro h6 (And.intro h7 h8))))
  clear h1 h2 h6 h7 h8
  go_cut [50] (fun s50 wx => s50 = .bool false ∧ ∃ m, wx = w1.drewN m)
  case first =>
    go_wp2_with (first | (with_reducible refine HI1.out.mono ?_; rintro e w2 ⟨rfl, rfl⟩) | (with_reducible refine HV1.out.mono ?_; rintro e w2 ⟨bv, mv, rfl, hbv, rfl⟩; obtain rfl : bv = true := hbv.2 HV.out))
    all_goals go_meet
    all_goals exact ⟨by first | rfl | simp, _, rfl⟩
  case rest =>
    obtain ⟨rfl, m, hwc⟩ := hcut
    have hbc : Below w1.heap.size w1 wc := by rw [hwc]; exact ((Fr.refl (fun _ => False) w1).drewN m).below (Nat.le_refl _) (fun _ h => h.elim)
    have HLC := Lib.hid (HL1.out.keep (Fr.of_all (S := fun _ => False) hbc) (fun _ _ h => h))
    have HBC := Lib.hid (HB1.out.trans (hbc.mono HB1.out.size))
    have Y5 := Lib.hid (HX5.out.below hbc)
    have Y6 := Lib.hid (HX6.out.below hbc)
    have HLA := Lib.hid (lg_last HLC.out)
    obtain ⟨li, hli⟩ : ∃ x, (lastS ix tm l).1 = x := ⟨_, rfl⟩
    obtain ⟨lt, hlt⟩ : ∃ x, (lastS ix tm l).2 = x := ⟨_, rfl⟩
    have HLL := Lib.hid (And.intro hli hlt)
    rw [hli, hlt] at HLA
    have dl : decide (term < lt) = false := decide_eq_false (by have := HP.out.2.2.2.2; omega)
    clear hbc hwc b0 b1 b2 b6 HX5 HX6 HV1 HI1 HL1 hli hlt
    go_upto_region 5 with (with_reducible refine HLA.out.mono ?_; rintro e w2 ⟨rfl, hb2⟩)
    have HL2 := Lib.hid (HLC.out.keep (Fr.of_all (S := fun _ => False) hb2) (fun _ _ h => h))
    have HB2 := Lib.hid (HBC.out.trans (hb2.mono HBC.out.size))
    have Z5 := Y5.out.below hb2
    have Z6 := Y6.out.below hb2
    have b0 := Z5.1 0 _ rfl
    have HZ5 := Lib.hid Z5
    have HZ6 := Lib.hid Z6
    clear hb2 Z5 Z6 HLA HLC HBC Y5 Y6
    go_upto_region 7 with fail
    have q0 : ∀ q : Later w2, q.1.cell? ⟨w.heap.size, 0, none⟩ = some (.int .i64 term) := fun q => (HZ5.out.below q.2).1 0 _ rfl
    have q1 : ∀ q : Later w2, q.1.cell? ⟨w.heap.size, 1, none⟩ = some (.int .i64 vote) := fun q => (HZ5.out.below q.2).1 1 _ rfl
    have q2 : ∀ q : Later w2, q.1.cell? ⟨w.heap.size, 2, none⟩ = some (.int .i64 commit) := fun q => (HZ5.out.below q.2).1 2 _ rfl
    have r0 : ∀ q : Later w2, q.1.cell? ⟨w.heap.size + 1, 0, none⟩ = some (.int .i64 ix) := fun q => (HZ6.out.below q.2).1 0 _ rfl
    have r2 : ∀ q : Later w2, q.1.cell? ⟨w.heap.size + 1, 2, none⟩ = some (.slice pm ms.length cm) := fun q => (HZ6.out.below q.2).1 2 _ rfl
    have HCL := Lib.hid (fun (W : World) (hW : Below w2.heap.size w2 W) => clone_ints pm ms.length cm ms W (rdi_wide (HM.below (HB2.out.trans (hW.mono HB2.out.size))) (Nat.le_trans HB2.out.size hW.size)) (by have := HP.out.2.2.2.1.2.1; omega))
    have hid10 : IntKind.i64.wrap (10 + id) = 10 + id := IntWalk.i64_in _ (by have := HP.out.2.1; omega)
    have hmm := @run_makeMap Tryz.prog
    clear b0 HZ5 HZ6
    go_upto_region 7 with fail
    refine Mix3.region_mix (n := 22) (m := 6) (fun V => ∃ q : Later w2, V = q.1) [0, 1, 2, 3, 4, 5, 6, 7, 8, 9, 10, 11, 12, 13, 14, 15, 17] (by kernel_rfl) rfl rfl (by kernel_rfl) (by kernel_rfl) ⟨⟨_, (Below.refl _ _).drew⟩, rfl⟩ ?_
    repeat (refine Mix3.picks_step rfl ?_; go_big_quiet_step (fail))
    refine Mix3.picks_nil ?_
    intro inv
    refine sink_two (i := 16) (j := 18) (by kernel_rfl) rfl rfl (by omega) (by omega) inv (fun K hK => ?_) (fun K hK => ?_)
    · have HKK := Lib.hid hK
      clear hK
      go_simp
      with_reducible refine (HCL.out _ (Below.refl _ _).drew).mono ?_
      rintro e w5 ⟨v5, rfl, ho5, hb5⟩
      obtain ⟨p5, c5, hv5⟩ := owns_slice ho5
      subst hv5
      have HB5 : Hid (Below w2.heap.size w2 w5) := Lib.hid ((Below.refl _ _).drew.trans (hb5.mono (Nat.le_refl _)))
      have HO5 := Lib.hid (own_lo ho5 (Nat.le_refl _))
      clear ho5 hb5
      refine HKK.out _ _ ⟨⟨_, HB5.out⟩, rfl⟩ ?_
      clear HKK inv
      intro hS inv
      (try simp only [Act.put]); (try simp only [List.setIfInBounds_toArray]); (try simp only [List.set_cons_succ]); (try simp only [List.set_cons_zero])
      refine sink_one (i := 18) (by kernel_rfl) rfl (by omega) inv (fun K hK => ?_)
      have HKK := Lib.hid hK
      clear hK
      go_simp
      refine HKK.out _ _ ⟨⟨_, HB5.out.alloc HB5.out.size _⟩, rfl⟩ ?_
      clear HKK inv
      intro hS inv
      (try simp only [Act.put]); (try simp only [List.setIfInBounds_toArray]); (try simp only [List.set_cons_succ]); (try simp only [List.set_cons_zero])
      refine Mix.more2 [19] (m := 3) rfl (by kernel_rfl) (by kernel_rfl) inv ⟨⟨_, HB5.out.alloc HB5.out.size _⟩, rfl⟩ (Mix.picks_cons rfl Mix.picks_end) ?_
      repeat (go_big_quiet_step (fail))
      refine wpQuiet_nil ?_
      clear inv
      intro inv
      refine sink_one (i := 20) (by kernel_rfl) rfl (by omega) inv (fun K hK => ?_)
      have HKK := Lib.hid hK
      clear hK
      go_simp
      refine HKK.out _ _ ⟨⟨_, (HB5.out.alloc HB5.out.size _).alloc (HB5.out.alloc HB5.out.size _).size _⟩, rfl⟩ ?_
      clear HKK inv
      intro hS inv
      (try simp only [Act.put]); (try simp only [List.setIfInBounds_toArray]); (try simp only [List.set_cons_succ]); (try simp only [List.set_cons_zero])
      refine Mix.more2 [21] (m := 1) rfl (by kernel_rfl) (by kernel_rfl) inv ⟨⟨_, (HB5.out.alloc HB5.out.size _).alloc (HB5.out.alloc HB5.out.size _).size _⟩, rfl⟩ (Mix.picks_cons rfl Mix.picks_end) ?_
      repeat (go_big_quiet_step (fail))
      refine wpQuiet_nil ?_
      clear inv
      intro inv
      refine sink_last (by kernel_rfl) rfl (by kernel_rfl) (fun K hK => ?_)
      have HKK := Lib.hid hK
      clear hK
      go_simp
      refine HKK.out _ _ ⟨rfl, ?_⟩
      clear HKK inv hS
      go_wp2_with fail
      go_ret2
      have hbf : Below w2.heap.size w2 (w5.alloc (.map #[] 0)) := HB5.out.alloc HB5.out.size _
      have hbg := hbf.alloc hbf.size (.cells #[.int .i64 id, .int .i64 0, .int .i64 0, .int .i64 term, .int .i64 vote, .int .i64 (min (max commit ix) li), .int .i64 0, .int .i64 (10 + id), .int .i64 0, .slice p5 ms.length c5, .pointer (some ⟨xb, 0, none⟩), .map (some w5.heap.size), nilv, nilv, .bool false, .int .i64 0, nilv] 89)
      have hcb := CBox.fresh (w5.alloc (.map #[] 0)) [.int .i64 id, .int .i64 0, .int .i64 0, .int .i64 term, .int .i64 vote, .int .i64 (min (max commit ix) li), .int .i64 0, .int .i64 (10 + id), .int .i64 0, .slice p5 ms.length c5, .pointer (some ⟨xb, 0, none⟩), .map (some w5.heap.size), nilv, nilv, .bool false, .int .i64 0, nilv] 89
      rw [World.size_alloc] at hcb
      have hl9 := HL2.out.keep (Fr.of_all (S := fun _ => False) hbg) (fun _ _ h => h)
      have hA := HL2.out.lt
      have hx := hA xb (.inl rfl)
      have h1 := HLL.out.1
      subst h1
      have hh1 := HB5.out.size
      refine ⟨_, ⟨xb, v, .slice p5 ms.length c5, w5.heap.size, nilv, nilv, [], nilv, []⟩, W0.heap.size, rfl, ⟨rfl, rfl, rfl⟩, HW0.out, new_fin (A := w2.heap.size) hl9 (fun k hk => (hA k hk).2) (Fr.owns (Fr.of_all (S := fun _ => False) ((((Below.refl _ w5).alloc (Nat.le_refl _) (.map #[] 0))).alloc (by rw [World.size_alloc]; omega) _)) HO5.out (fun _ _ h => h)) (fun e => ?_) (fun e => ?_) ⟨.map [], own_map_fr (World.ownsMap_made w5 Tryz.prog 3 heldR) (Fr.of_all (S := fun _ => False) ((Below.refl _ _).alloc (Nat.le_refl _) _)) (fun h => h), MapR.nil⟩ (by omega) (by omega) (by omega) (by omega) hcb, HB2.out.trans (hbg.mono HB2.out.size)⟩
      · have := (HO5.out.lt _ e).2
        omega
      · have := (HO5.out.lt _ e).2
        omega
    · have HKK := Lib.hid hK
      clear hK
      go_simp
      have hb6 : Below w2.heap.size w2 (w2.alloc (.map #[] 0)).drew := ((Below.refl _ _).alloc (Nat.le_refl _) _).drew
      have HB6 := Lib.hid hb6
      have hs6 : (w2.alloc (.map #[] 0)).drew.heap.size = w2.heap.size + 1 := World.size_alloc _ _
      have HS6 := Lib.hid hs6
      clear hb6 hs6
      refine HKK.out _ _ ⟨⟨_, HB6.out⟩, rfl⟩ ?_
      clear HKK inv
      intro hS inv
      (try simp only [Act.put]); (try simp only [List.setIfInBounds_toArray]); (try simp only [List.set_cons_succ]); (try simp only [List.set_cons_zero])
      refine sink_one (i := 16) (by kernel_rfl) rfl (by omega) inv (fun K hK => ?_)
      have HKK := Lib.hid hK
      clear hK
      go_simp
      with_reducible refine (HCL.out _ HB6.out).mono ?_
      rintro e w5 ⟨v5, rfl, ho5, hb5⟩
      obtain ⟨p5, c5, hv5⟩ := owns_slice ho5
      subst hv5
      have HB5 : Hid (Below w2.heap.size w2 w5) := Lib.hid (HB6.out.trans (hb5.mono HB6.out.size))
      have HO5 : Hid (w5.ownsRow (w2.heap.size + 1) 3 1 (.slice p5 ms.length c5) ms.length (rowOf ncells ms)) := Lib.hid (own_lo ho5 (Nat.le_of_eq HS6.out.symm))
      have HM6 : Hid (w5.ownsMap Tryz.prog 3 heldR w2.heap.size 0 (.map [])) := Lib.hid (own_map_fr (World.ownsMap_made w2 Tryz.prog 3 heldR) (Fr.trans (Fr.refl (fun _ => False) _).drew (Fr.of_all (S := fun _ => False) hb5) (fun _ h _ => h)) (fun h => h))
      have HS5 : Hid (w2.heap.size + 1 ≤ w5.heap.size) := Lib.hid (by have h1 := hb5.size; have h2 := HS6.out; omega)
      clear ho5 hb5
      refine HKK.out _ _ ⟨⟨_, HB5.out⟩, rfl⟩ ?_
      clear HKK inv
      intro hS inv
      (try simp only [Act.put]); (try simp only [List.setIfInBounds_toArray]); (try simp only [List.set_cons_succ]); (try simp only [List.set_cons_zero])
      refine Mix.more2 [19] (m := 3) rfl (by kernel_rfl) (by kernel_rfl) inv ⟨⟨_, HB5.out⟩, rfl⟩ (Mix.picks_cons rfl Mix.picks_end) ?_
      repeat (go_big_quiet_step (fail))
      refine wpQuiet_nil ?_
      clear inv
      intro inv
      refine sink_one (i := 20) (by kernel_rfl) rfl (by omega) inv (fun K hK => ?_)
      have HKK := Lib.hid hK
      clear hK
      go_simp
      refine HKK.out _ _ ⟨⟨_, HB5.out.alloc HB5.out.size _⟩, rfl⟩ ?_
      clear HKK inv
      intro hS inv
      (try simp only [Act.put]); (try simp only [List.setIfInBounds_toArray]); (try simp only [List.set_cons_succ]); (try simp only [List.set_cons_zero])
      refine Mix.more2 [21] (m := 1) rfl (by kernel_rfl) (by kernel_rfl) inv ⟨⟨_, HB5.out.alloc HB5.out.size _⟩, rfl⟩ (Mix.picks_cons rfl Mix.picks_end) ?_
      repeat (go_big_quiet_step (fail))
      refine wpQuiet_nil ?_
      clear inv
      intro inv
      refine sink_last (by kernel_rfl) rfl (by kernel_rfl) (fun K hK => ?_)
      have HKK := Lib.hid hK
      clear hK
      go_simp
      refine HKK.out _ _ ⟨rfl, ?_⟩
      clear HKK inv hS
      go_wp2_with fail
      go_ret2
      have hbf : Below w2.heap.size w2 w5 := HB5.out
      have hbg := hbf.alloc hbf.size (.cells #[.int .i64 id, .int .i64 0, .int .i64 0, .int .i64 term, .int .i64 vote, .int .i64 (min (max commit ix) li), .int .i64 0, .int .i64 (10 + id), .int .i64 0, .slice p5 ms.length c5, .pointer (some ⟨xb, 0, none⟩), .map (some w2.heap.size), nilv, nilv, .bool false, .int .i64 0, nilv] 89)
      have hcb := CBox.fresh w5 [.int .i64 id, .int .i64 0, .int .i64 0, .int .i64 term, .int .i64 vote, .int .i64 (min (max commit ix) li), .int .i64 0, .int .i64 (10 + id), .int .i64 0, .slice p5 ms.length c5, .pointer (some ⟨xb, 0, none⟩), .map (some w2.heap.size), nilv, nilv, .bool false, .int .i64 0, nilv] 89
      have hl9 := HL2.out.keep (Fr.of_all (S := fun _ => False) hbg) (fun _ _ h => h)
      have hA := HL2.out.lt
      have hx := hA xb (.inl rfl)
      have h1 := HLL.out.1
      subst h1
      have hh1 := HS5.out
      refine ⟨_, ⟨xb, v, .slice p5 ms.length c5, w2.heap.size, nilv, nilv, [], nilv, []⟩, W0.heap.size, rfl, ⟨rfl, rfl, rfl⟩, HW0.out, new_fin (A := w2.heap.size) hl9 (fun k hk => (hA k hk).2) (own_lo (Fr.owns (Fr.of_all (S := fun _ => False) ((Below.refl _ w5).alloc (Nat.le_refl _) _)) HO5.out (fun _ _ h => h)) (Nat.le_succ _)) (fun e => ?_) (fun e => ?_) ⟨.map [], own_map_fr HM6.out (Fr.of_all (S := fun _ => False) ((Below.refl _ w5).alloc (Nat.le_refl _) _)) (fun h => h), MapR.nil⟩ (by omega) (by omega) (by omega) (by omega) hcb, HB2.out.trans (hbg.mono HB2.out.size)⟩
      · have := (HO5.out.lt _ e).1
        omega
      · have := (HO5.out.lt _ e).2
        omega
end
end RF
end Go.Proofs.YtaodldagmmephaaGreat

/- raft: alive, plain. -/
namespace Go.Proofs.YtaodldagmmephaaGreat
open Go.RowKit Go.Maps
namespace RF
/-- The core of alive(). -/
def live : Nat → RS
  | 0 => new0 1 0 0 0 0 0 [1] []
  | n + 1 => ((live n).tick0 0).fin
set_option maxRecDepth 100000 in
theorem live_10 : (live 10).elapsed = 10 := by rfl
set_option maxRecDepth 100000 in
theorem live_11 : (live 11).role = 2 ∧ (live 11).commit = 1 ∧ (live 11).term = 1 ∧ (lastS (live 11).b (live 11).t (live 11).l).1 = 1 ∧ (live 11).all.length = 1 := by decide +kernel
theorem live_eq (n : Nat) (h : n ≤ 10) : live n = { new0 1 0 0 0 0 0 [1] [] with elapsed := (n : Int) } := by
  have h9 : n = 0 ∨ n = 1 ∨ n = 2 ∨ n = 3 ∨ n = 4 ∨ n = 5 ∨ n = 6 ∨ n = 7 ∨ n = 8 ∨ n = 9 ∨ n = 10 := by omega
  rcases h9 with rfl | rfl | rfl | rfl | rfl | rfl | rfl | rfl | rfl | rfl | rfl <;> rfl
theorem valid_one : CL.Valid [1] := ⟨by decide, by decide, fun i hi => by
  have h0 : i = 0 := by have : i < 1 := hi; omega
  subst h0
  exact ⟨by decide, fun h => by omega⟩⟩
theorem live_new : newR 1 0 0 0 0 0 [1] [] := ⟨rfl, ⟨by omega, by omega⟩, by omega, by omega, by omega, by omega, valid_one, by decide⟩
theorem live_rb0 : RB 1 1 (new0 1 0 0 0 0 0 [1] []) :=
  ⟨⟨by show (1 : Int) ≤ 1; omega, by show (1 : Int) ≤ 64; omega⟩, rfl, by decide, by decide, by decide, by decide, (fun e he => absurd he List.not_mem_nil), live_new.2.2.2.2.2.2.1, (fun x hx => absurd hx List.not_mem_nil), List.nodup_nil, ⟨by decide, by decide⟩, ⟨by decide, by decide⟩, ⟨by decide, by decide⟩, by decide⟩
theorem live_rb (n : Nat) (h : n ≤ 10) : RB 1 1 (live n) := by
  rw [live_eq n h]
  exact live_rb0.of rfl rfl rfl rfl rfl rfl rfl rfl rfl
theorem live_out (n : Nat) : (live n).out = ot0 := by
  cases n with
  | zero => rfl
  | succ n => rfl
end RF
end Go.Proofs.YtaodldagmmephaaGreat

/- raft: alive. -/
namespace Go.Proofs.YtaodldagmmephaaGreat
open Go.RowKit Go.Maps
namespace RF
theorem live_el (n : Nat) (h : n ≤ 10) : 0 ≤ (live n).elapsed ∧ (live n).elapsed ≤ 4611686018427387904 := by
  rw [live_eq n h]
  exact ⟨Int.natCast_nonneg n, by show (n : Int) ≤ _; omega⟩
theorem live_rb11 : RB 2 2 (live 11) := by
  have h : RB 2 2 ((live 10).tick0 0) := by
    have h1 := live_rb 10 (by omega)
    have h2 : (live 10).tick0 0 = ((live 10).tick1.stand1 0).win := by
      unfold RS.tick0 RS.stand
      rw [if_neg (by decide +kernel), if_pos (by decide +kernel), if_pos (by decide +kernel)]
    rw [h2]
    exact win_rb (h1.tick1.stand1 (by decide)) (by omega) (by omega)
  exact h.of rfl rfl rfl rfl rfl rfl rfl rfl rfl

set_option maxHeartbeats 2000000 in
set_option maxRecDepth 100000 in
theorem alive_true (w : World) : Calls Tryz.prog 13 #[] w fun e w' => e = .returned (.bool true) ∧ Below w.heap.size w w' := by
  have B1 : Below w.heap.size w (w.alloc (.cells #[.int .i64 1] 3)) := (Below.refl _ w).alloc (Nat.le_refl _) _
  have ho := row_fresh w 1 (Nat.le_refl _)
  have HNEW := Lib.hid (rf_new 1 0 0 0 0 0 [1] (some ⟨w.heap.size, 0, none⟩) 1 [] none 0 0 (by omega) (by omega) (RdI.of_own ho rfl) ⟨rfl, fun h => absurd h (by omega)⟩ (.inr ⟨rfl, rfl⟩) (by omega) (fun i hi => absurd hi (by omega)) live_new)
  simp only [List.length_cons, List.length_nil, Nat.zero_add] at HNEW
  have HB1 := Lib.hid B1
  clear ho B1
  go_enter Tryz.func13, Tryz.ntmps13
  go_wp2_with fail
  with_reducible refine (HNEW.out).mono ?_
  rintro e w2 ⟨rb, h, B0, rfl, hcl, hB0, hr, hb2⟩
  have HS : Hid (w.heap.size ≤ B0) := Lib.hid (Nat.le_trans HB1.out.size hB0)
  have HR2 : Hid (h.clean ∧ Rf rb B0 (live 0) h w2 ∧ Below w.heap.size w w2) := Lib.hid ⟨hcl, hr, HB1.out.trans (hb2.mono HB1.out.size)⟩
  clear hcl hB0 hr hb2 HNEW HB1
  go_wp2
  go_loopw [3] (fun iv wr => ∃ (i : Nat) (h : Hd), i ≤ 11 ∧ iv = .int .i64 i ∧ Hid (h.clean ∧ Rf rb B0 (live i) h wr ∧ Below w.heap.size w wr)) (fun iv _ => 11 - (intOf iv).toNat)
  case atStart => exact ⟨0, h, by omega, rfl, HR2⟩
  case round =>
    obtain ⟨i, h', hi, rfl, HR⟩ := hrel
    by_cases hlt : i < 11
    · have hltI : (i : Int) < 11 := by omega
      have HTK := Lib.hid (rf_tick 0 (by omega) (by omega) HR.out.2.1 (live_rb i (by omega)) (by omega) (by omega) HR.out.1 (live_out i) (live_el i (by omega)))
      go_wp2_with fail
      with_reducible refine (HTK.out).mono ?_
      rintro e w3 ⟨v, h3, rfl, hc3, hr3, hp3, _⟩
      have HR3 : Hid (h3.clean ∧ Rf rb B0 (live (i + 1)) h3 w3 ∧ Below w.heap.size w w3) := Lib.hid ⟨hc3, hr3, HR.out.2.2.trans (hp3.1.below (HR.out.2.2.size) (fun k hk => Nat.le_trans HS.out (HR.out.2.1.lt hk).1))⟩
      clear hc3 hr3 hp3 HTK HR
      go_wp2
      go_roundw
      case rel => exact ⟨i + 1, h3, by omega, by go_num, HR3⟩
      case measure => simp [intOf]; omega
    · obtain rfl : i = 11 := by omega
      have HST := Lib.hid (rf_state HR.out.2.1 live_rb11)
      have HLV := Lib.hid live_11
      generalize live 11 = z at *
      go_wp2_with fail
      with_reducible refine (HST.out).mono ?_
      rintro e w3 ⟨v, rfl, ho3, hb3⟩
      obtain ⟨p3, c3, hv3⟩ := owns_slice ho3
      subst hv3
      have HB3 : Hid (Below w.heap.size w w3) := Lib.hid (HR.out.2.2.trans (hb3.mono HR.out.2.2.size))
      have e1 := HLV.out.1
      have e2 := HLV.out.2.1
      have e3 := HLV.out.2.2.1
      have e4 := HLV.out.2.2.2.1
      have e5 := HLV.out.2.2.2.2
      unfold stateV
      rw [e1, e2, e3, e4, e5]
      clear ho3 hb3 HST HLV e1 e2 e3 e4 e5
      go_wp2_with fail
      go_ret
      exact ⟨rfl, HB3.out.alloc HB3.out.size _⟩
end RF
end Go.Proofs.YtaodldagmmephaaGreat

/- raft: nil and zero cores: what only answers. -/
namespace Go.Proofs.YtaodldagmmephaaGreat
open Go.RowKit Go.Maps
namespace RF
/-- No core: nil, or one without a log. -/
def Void (v : Value) (w : World) : Prop := v = .pointer none ∨ ∃ b, v = .pointer (some ⟨b, 0, none⟩) ∧ w.cell? ⟨b, 10, none⟩ = some (.pointer none)
theorem Void.below {v : Value} {w w' : World} (h : Void v w) (hb : Below w.heap.size w w') : Void v w' := by
  rcases h with h | ⟨b, h, hc⟩
  · exact .inl h
  · exact .inr ⟨b, h, (hb.cell (p := ⟨b, 10, none⟩) (cell_lt hc)).trans hc⟩
set_option maxRecDepth 100000 in
theorem none_void (v : Value) (w : World) (h : Void v w) : Calls Tryz.prog 46 #[v] w fun e w' => e = .returned (.bool true) ∧ w' = w := by
  rcases h with rfl | ⟨b, rfl, hc⟩
  · go_enter Tryz.func46, Tryz.ntmps46
    go_wp2
    go_ret
    exact ⟨rfl, rfl⟩
  · go_enter Tryz.func46, Tryz.ntmps46
    go_wp2
    go_ret
    exact ⟨rfl, rfl⟩
set_option maxRecDepth 100000 in
theorem acked_void (v : Value) (w : World) (h : Void v w) : Calls Tryz.prog 33 #[v] w fun e w' => e = .returned (.int .i64 0) ∧ w' = w := by
  have HN := Lib.hid (none_void v w h)
  clear h
  go_enter Tryz.func33, Tryz.ntmps33
  go_wp2_with (with_reducible refine HN.out.mono ?_; rintro e w2 ⟨rfl, rfl⟩)
  go_ret
  exact ⟨rfl, rfl⟩
set_option maxRecDepth 100000 in
theorem log_void (v : Value) (w : World) (h : Void v w) : Calls Tryz.prog 39 #[v] w fun e w' => e = .returned (.pointer none) ∧ w' = w := by
  have HN := Lib.hid (none_void v w h)
  clear h
  go_enter Tryz.func39, Tryz.ntmps39
  go_wp2_with (with_reducible refine HN.out.mono ?_; rintro e w2 ⟨rfl, rfl⟩)
  go_ret
  exact ⟨rfl, rfl⟩
set_option maxRecDepth 100000 in
theorem compact_void (v : Value) (a : Int) (w : World) (h : Void v w) : Calls Tryz.prog 38 #[v, .int .i64 a] w fun e w' => e = .returned (.bool false) ∧ w' = w := by
  have HN := Lib.hid (none_void v w h)
  clear h
  go_enter Tryz.func38, Tryz.ntmps38
  go_wp2_with (with_reducible refine HN.out.mono ?_; rintro e w2 ⟨rfl, rfl⟩)
  go_ret
  exact ⟨rfl, rfl⟩
/-- An empty Out. -/
def outZ : Value := .agg #[.slice none 0 0, .bool false, .int .i64 0, .slice none 0 0]
set_option maxRecDepth 100000 in
theorem tick_void (v : Value) (a : Int) (w : World) (h : Void v w) : Calls Tryz.prog 28 #[v, .int .i64 a] w fun e w' => e = .returned outZ ∧ Below w.heap.size w w' := by
  have HB1 := Lib.hid ((Below.refl _ w).alloc (Nat.le_refl _) (.cells #[.slice none 0 0, .bool false, .int .i64 0, .slice none 0 0] 37))
  have HN := Lib.hid (none_void v _ (h.below HB1.out))
  unfold outZ
  clear h
  go_enter Tryz.func28, Tryz.ntmps28
  go_wp2_with (with_reducible refine HN.out.mono ?_; rintro e w2 ⟨rfl, rfl⟩)
  refine bodyPost_ret (results_cell1 rfl _ _ _ ⟨w.heap.size, 0, none⟩ (.agg #[.slice none 0 0, .bool false, .int .i64 0, .slice none 0 0]) rfl (by go_simp)) rfl ?_
  exact ⟨rfl, HB1.out⟩
set_option maxRecDepth 100000 in
theorem state_void (v : Value) (w : World) (h : Void v w) : Calls Tryz.prog 16 #[v] w fun e w' => e = .returned (.agg #[.int .i64 0, .int .i64 0, .int .i64 0, .int .i64 0, .int .i64 0, .int .i64 0, .int .i64 0, .int .i64 0, .int .i64 0, .int .i64 0, .int .i64 0, .int .i64 0, .slice none 0 0]) ∧ Below w.heap.size w w' := by
  have HB1 := Lib.hid ((Below.refl _ w).alloc (Nat.le_refl _) (.cells #[.int .i64 0, .int .i64 0, .int .i64 0, .int .i64 0, .int .i64 0, .int .i64 0, .int .i64 0, .int .i64 0, .int .i64 0, .int .i64 0, .int .i64 0, .int .i64 0, .slice none 0 0] 41))
  have HN := Lib.hid (none_void v _ (h.below HB1.out))
  clear h
  go_enter Tryz.func16, Tryz.ntmps16
  go_wp2_with (with_reducible refine HN.out.mono ?_; rintro e w2 ⟨rfl, rfl⟩)
  refine bodyPost_ret (results_cell1 rfl _ _ _ ⟨w.heap.size, 0, none⟩ (.agg #[.int .i64 0, .int .i64 0, .int .i64 0, .int .i64 0, .int .i64 0, .int .i64 0, .int .i64 0, .int .i64 0, .int .i64 0, .int .i64 0, .int .i64 0, .int .i64 0, .slice none 0 0]) rfl (by go_simp)) rfl ?_
  exact ⟨rfl, HB1.out⟩
end RF
end Go.Proofs.YtaodldagmmephaaGreat

/- raft: nil and zero cores, further. -/
namespace Go.Proofs.YtaodldagmmephaaGreat
open Go.RowKit Go.Maps
namespace RF
theorem results_four {fn : Func} {a b c d : Tmp} (h : fn.results = #[.tmp a, .tmp b, .tmp c, .tmp d]) (tmps : Array Value) (P : Program) (w : World) :
    (results fn tmps).run P w = .ok (.tuple #[tmps.getD a undef, tmps.getD b undef, tmps.getD c undef, tmps.getD d undef]) w := by
  simp [results, h, Sem.run_bind, Sem.run_pure, Result.andThen]
set_option maxRecDepth 100000 in
theorem peer_void (v : Value) (a : Int) (w : World) (h : Void v w) : Calls Tryz.prog 37 #[v, .int .i64 a] w fun e w' => e = .returned (.tuple #[.int .i64 0, .int .i64 0, .int .i64 0, .bool false]) ∧ w' = w := by
  have HN := Lib.hid (none_void v w h)
  clear h
  go_enter Tryz.func37, Tryz.ntmps37
  go_wp2_with (with_reducible refine HN.out.mono ?_; rintro e w2 ⟨rfl, rfl⟩)
  refine bodyPost_ret (results_four rfl _ _ _) rfl ?_
  exact ⟨rfl, rfl⟩
set_option maxRecDepth 100000 in
theorem sent_void (v : Value) (a b : Int) (w : World) (h : Void v w) : Calls Tryz.prog 40 #[v, .int .i64 a, .int .i64 b] w fun e w' => e = .returned outZ ∧ Below w.heap.size w w' := by
  have HB1 := Lib.hid ((Below.refl _ w).alloc (Nat.le_refl _) (.cells #[.slice none 0 0, .bool false, .int .i64 0, .slice none 0 0] 37))
  have HN := Lib.hid (none_void v _ (h.below HB1.out))
  unfold outZ
  clear h
  go_enter Tryz.func40, Tryz.ntmps40
  go_wp2_with (with_reducible refine HN.out.mono ?_; rintro e w2 ⟨rfl, rfl⟩)
  refine bodyPost_ret (results_cell1 rfl _ _ _ ⟨w.heap.size, 0, none⟩ (.agg #[.slice none 0 0, .bool false, .int .i64 0, .slice none 0 0]) rfl (by go_simp)) rfl ?_
  exact ⟨rfl, HB1.out⟩
end RF
end Go.Proofs.YtaodldagmmephaaGreat

