/- ReadPlays: what each call leaves of both queues and the Book. -/
import Derived.Test.YtjpmebfegpmccaaGreatRPL
import Derived.Test.YtjpmebfegpmccaaGreatSame
namespace Go.Proofs.YtjpmebfegpmccaaGreat
open Go.RowKit

/-- The state, beside a step's own blocks O, which stay as they were in w0. -/
structure RPX (w w0 W : World) (qb rb bb : Nat) (O : Nat → Prop) (N : Nat) (qv rv_ : Value) (l : List Wt) (seq : Int) (L : List Rd) (F : Nat → Prop) : Prop where
  s : RPW w W qb rb bb N qv rv_ l seq L F
  fr : Fr (fun j => ¬ O j) w0 W
  lt : ∀ j, O j → j < w0.heap.size
  q : ∀ j, O j → ¬ queueF qb qv j
  r : ∀ j, O j → ¬ rqF rb rv_ j
  f : ∀ j, O j → ¬ F j

section
variable {w w0 W W' : World} {qb rb bb N N' : Nat} {O : Nat → Prop} {qv rv_ qv' rv' : Value} {l l' : List Wt} {seq seq' : Int} {L L' : List Rd} {F F' : Nat → Prop}

theorem RPX.start (h : RPW w W qb rb bb N qv rv_ l seq L F) (hO : ∀ j, O j → j < W.heap.size ∧ ¬ queueF qb qv j ∧ ¬ rqF rb rv_ j ∧ ¬ F j) : RPX w W W qb rb bb O N qv rv_ l seq L F :=
  ⟨h, Fr.refl _ _, fun j hj => (hO j hj).1, fun j hj => (hO j hj).2.1, fun j hj => (hO j hj).2.2.1, fun j hj => (hO j hj).2.2.2⟩
theorem RPX.obw (h : RPX w w0 W qb rb bb O N qv rv_ l seq L F) : ∀ j, O j → j < W.heap.size := fun j hj => Nat.lt_of_lt_of_le (h.lt j hj) h.fr.size
theorem RPX.below (h : RPX w w0 W qb rb bb O N qv rv_ l seq L F) (hb : Below W.heap.size W W') : RPX w w0 W' qb rb bb O N qv rv_ l seq L F :=
  ⟨h.s.below hb, Fr.trans h.fr (Fr.of_all (S := fun _ => False) hb) (fun _ e _ => e.elim), h.lt, h.q, h.r, h.f⟩
theorem RPX.setq (h : RPX w w0 W qb rb bb O N qv rv_ l seq L F) (hq : QueueI qb w.heap.size qv' l' seq' W') (hF : Fr (queueF qb qv) W W') (hl : ∀ g, qv'.ownBlock = some g → Lies qv g W.heap.size) : RPX w w0 W' qb rb bb O N qv' rv_ l' seq' L F :=
  ⟨h.s.setq hq hF hl, Fr.trans h.fr hF (fun i hi _ e => h.q i e hi), h.lt, fun j hj e => by
    rcases e with e | e
    · exact h.q j hj (.inl e)
    · rcases hl j e with h1 | h1
      · exact h.q j hj (.inr h1)
      · have := h.obw j hj; omega, h.r, h.f⟩
theorem RPX.setr (h : RPX w w0 W qb rb bb O N qv rv_ l seq L F) (hr : RQI rb w.heap.size rv' L' W') (hF : Fr (fun k => k = rb) W W') (hl : ∀ g, rv'.ownBlock = some g → W.heap.size ≤ g) : RPX w w0 W' qb rb bb O N qv rv' l seq L' F :=
  ⟨h.s.setr hr hF hl, Fr.trans h.fr hF (fun i hi _ e => h.r i e (.inl hi)), h.lt, h.q, fun j hj e => by
    rcases e with e | e
    · exact h.r j hj (.inl e)
    · have := hl j e; have := h.obw j hj; omega, h.f⟩
theorem RPX.setk (h : RPX w w0 W qb rb bb O N qv rv_ l seq L F) {v : Value} (hk : BookN W' bb w.heap.size N' (fun b => F b ∨ v.ownBlock = some b ∨ (W.heap.size ≤ b ∧ b < W'.heap.size))) (hF : Fr F W W') (hB : Below w.heap.size W W') (h1 : ∀ b, v.ownBlock = some b → ¬ queueF qb qv b ∧ ¬ rqF rb rv_ b ∧ ¬ O b) :
    RPX w w0 W' qb rb bb O N' qv rv_ l seq L (fun b => F b ∨ v.ownBlock = some b ∨ (W.heap.size ≤ b ∧ b < W'.heap.size)) :=
  ⟨h.s.setk hk hF hB (fun b e => ⟨(h1 b e).1, (h1 b e).2.1⟩), Fr.trans h.fr hF (fun i hi _ e => h.f i e hi), h.lt, h.q, h.r, fun j hj e => by
    rcases e with e | e | e
    · exact h.f j hj e
    · exact (h1 j e).2.2 hj
    · have := h.obw j hj; omega⟩
end

/-- Both queues hold the same, in whatever order the heap has it. -/
def RPS (w w0 : World) (qb rb bb : Nat) (O : Nat → Prop) (i : Nat) (W : World) : Prop :=
  ∃ qv rv_ l seq S F N, RPX w w0 W qb rb bb O N qv rv_ l seq (S.map rdOf) F ∧ N ≤ i ∧ QS2 S seq ∧ l.Perm S ∧ 0 ≤ seq ∧ seq ≤ 40 * (i : Int) ∧ S.length ≤ 40 * i
theorem RPS.start {w : World} {qb rb bb i : Nat} {W : World} (h : RPI w qb rb bb i W) (o : Obj) : RPS w (W.alloc o) qb rb bb (fun j => j = W.heap.size) i (W.alloc o) := by
  obtain ⟨a, b, c, d, e, f, g, h, k⟩ := h
  exact ⟨a, b, c, d, e, f, g, RPX.start (h.below ((Below.refl _ W).alloc (Nat.le_refl _) o)) (fun j hj => by
    subst hj
    exact ⟨by simp, fun e => by have := h.q.lt _ e; omega, fun e => by have := h.r.lt _ e; omega, fun e => by have := h.k.lt _ e; omega⟩), k⟩
/-- More blocks of the step's own. -/
theorem RPS.again {w w0 : World} {qb rb bb i : Nat} {O O' : Nat → Prop} {W W' : World} (h : RPS w w0 qb rb bb O i W) (hb : Below W.heap.size W W') (hO : ∀ j, O' j → O j ∨ (W.heap.size ≤ j ∧ j < W'.heap.size)) : RPS w W' qb rb bb O' i W' := by
  obtain ⟨a, b, c, d, e, f, g, h, k⟩ := h
  refine ⟨a, b, c, d, e, f, g, RPX.start (h.s.below hb) (fun j hj => ?_), k⟩
  rcases hO j hj with h1 | h1
  · exact ⟨Nat.lt_of_lt_of_le (h.obw j h1) hb.size, h.q j h1, h.r j h1, h.f j h1⟩
  · exact ⟨h1.2, fun e => by have := h.s.q.lt _ e; omega, fun e => by have := h.s.r.lt _ e; omega, fun e => by have := h.s.k.lt _ e; omega⟩
theorem RPS.toI {w w0 : World} {qb rb bb i : Nat} {O : Nat → Prop} {W : World} (h : RPS w w0 qb rb bb O i W) : RPI w qb rb bb i W := by
  obtain ⟨a, b, c, d, e, f, g, h, k⟩ := h
  exact ⟨a, b, c, d, e, f, g, h.s, k⟩
theorem RPI.more {w : World} {qb rb bb i j : Nat} {W : World} (h : RPI w qb rb bb i W) (hj : i ≤ j) : RPI w qb rb bb j W := by
  obtain ⟨a, b, c, d, e, f, g, h, k1, k2, k3, k4, k5, k6⟩ := h
  exact ⟨a, b, c, d, e, f, g, h, by omega, k2, k3, k4, by omega, by omega⟩
theorem RPS.fr {w w0 : World} {qb rb bb i : Nat} {O : Nat → Prop} {W : World} (h : RPS w w0 qb rb bb O i W) : Fr (fun j => ¬ O j) w0 W := by
  obtain ⟨a, b, c', d, e, f, g, h, k⟩ := h
  exact h.fr

/-- Behind q.Ready or q.Clear: what is told is q's own row. -/
def RPA (w w0 : World) (qb rb bb : Nat) (O : Nat → Prop) (i : Nat) (pick : Rd → Bool) (kept : Bool) (p : Option Addr) (m c : Nat) (W : World) : Prop :=
  ∃ qv rv_ l seq S F N base, RPX w w0 W qb rb bb O N qv rv_ l seq (S.map rdOf) F ∧ N ≤ (if kept then i + 1 else i) ∧ QS2 S seq ∧ l.Perm (S.filter fun x => !pick (rdOf x)) ∧ 0 ≤ seq ∧ seq ≤ 40 * (i : Int) ∧ S.length ≤ 40 * i ∧
    W.ownsRow base 3 1 (.slice p m c) m (rowOf ncells ((S.filter fun x => pick (rdOf x)).map (·.1))) ∧ ((S.filter fun x => pick (rdOf x)).map (·.1)).length = m ∧ w0.heap.size ≤ base ∧ w.heap.size ≤ base ∧ bb < base ∧
    ∀ g, (Value.slice p m c).ownBlock = some g → ¬ queueF qb qv g ∧ ¬ rqF rb rv_ g ∧ (kept = false → ¬ F g)
theorem RPA.fr {w w0 : World} {qb rb bb i : Nat} {O : Nat → Prop} {pick : Rd → Bool} {kept : Bool} {p : Option Addr} {m c : Nat} {W : World} (h : RPA w w0 qb rb bb O i pick kept p m c W) : Fr (fun j => ¬ O j) w0 W := by
  obtain ⟨_, _, _, _, _, _, _, _, h, _⟩ := h
  exact h.fr

theorem rp_take {w w0 : World} {qb rb bb i : Nat} {O : Nat → Prop} {W W' : World} {pick : Rd → Bool} {e : Ending} {qv rv_ : Value} {l : List Wt} {seq : Int} {S : List Wt} {F : Nat → Prop} {N : Nat} (h : RPX w w0 W qb rb bb O N qv rv_ l seq (S.map rdOf) F) (k1 : N ≤ i) (k2 : QS2 S seq) (k3 : l.Perm S) (k4 : 0 ≤ seq) (k5 : seq ≤ 40 * (i : Int)) (k6 : S.length ≤ 40 * i)
    (hT : TakePost pick qb w.heap.size qv l seq W e W') : ∃ p m c, e = .returned (.slice p m c) ∧ RPA w w0 qb rb bb O i pick false p m c W' := by
  obtain ⟨ov, T, v', l', rfl, hp, hs, ho, hq, hl', hF, hge⟩ := hT
  obtain rfl : T = S := k2.base.uniq hs (hp.trans k3)
  obtain ⟨p, c, hov⟩ := owns_slice ho
  have hlen : ((T.filter fun x => pick (rdOf x)).map (·.1)).length = (T.filter fun x => pick (rdOf x)).length := List.length_map _
  subst hov
  have hx := h.setq hq hF (fun g hg => .inr (hge g hg))
  refine ⟨p, _, c, rfl, v', rv_, l', seq, T, F, N, W.heap.size, hx, k1, k2, hl', k4, k5, k6, ho, hlen, h.fr.size, h.s.bel.size, h.s.k.lt _ h.s.k.ptr, fun g hg => ⟨told_apart ho hq (h.s.q.lt _ (.inl rfl)) g hg, fun e => ?_, fun _ e => ?_⟩⟩
  · have h1 := (ho.lt g hg).1
    have h2 := h.s.r.lt g e
    omega
  · have h1 := (ho.lt g hg).1
    have h2 := h.s.k.lt g e
    omega

theorem rp_ready {w w0 : World} {qb rb bb i : Nat} {O : Nat → Prop} {W : World} (h : RPS w w0 qb rb bb O i W) (a b : Int) :
    Calls Tryz.prog 8 #[.pointer (some ⟨qb, 0, none⟩), .int .i64 a, .int .i64 b] W fun e w' => ∃ p m c, e = .returned (.slice p m c) ∧ RPA w w0 qb rb bb O i (pickR a b) false p m c w' := by
  obtain ⟨qv, rv_, l, seq, S, F, N, h, k1, k2, k3, k4, k5, k6⟩ := h
  exact (queue_ready qb w.heap.size qv l seq a b W h.s.q).mono fun e w' hT => rp_take h k1 k2 k3 k4 k5 k6 hT
theorem rp_clear {w w0 : World} {qb rb bb i : Nat} {O : Nat → Prop} {W : World} (h : RPS w w0 qb rb bb O i W) :
    Calls Tryz.prog 12 #[.pointer (some ⟨qb, 0, none⟩)] W fun e w' => ∃ p m c, e = .returned (.slice p m c) ∧ RPA w w0 qb rb bb O i (fun _ => true) false p m c w' := by
  obtain ⟨qv, rv_, l, seq, S, F, N, h, k1, k2, k3, k4, k5, k6⟩ := h
  exact (queue_clear qb w.heap.size qv l seq W h.s.q).mono fun e w' hT => rp_take h k1 k2 k3 k4 k5 k6 hT

theorem rp_keep {w w0 : World} {qb rb bb i : Nat} {O : Nat → Prop} {W : World} {pick : Rd → Bool} {p : Option Addr} {m c : Nat} (h : RPA w w0 qb rb bb O i pick false p m c W) (hi : i < 120) :
    Calls Tryz.prog 9 #[.pointer (some ⟨bb, 0, none⟩), .slice p m c] W fun e w' => e = .returned (.tuple #[]) ∧ RPA w w0 qb rb bb O i pick true p m c w' := by
  obtain ⟨qv, rv_, l, seq, S, F, N, base, h, k1, k2, k3, k4, k5, k6, ho, hl, hb0, hbw, hbb, hd⟩ := h
  simp only [Bool.false_eq_true, if_false] at k1
  have hm : m ≤ 10000 := by
    rw [← hl, List.length_map]
    have := List.length_filter_le (fun x => pick (rdOf x)) S
    omega
  refine (bookN_more h.s.k (.slice p m c) base m _ ho hl hm (fun b hb => (hd b hb).2.2 rfl) (by omega) hbw h.s.bb).mono ?_
  rintro e w' ⟨rfl, hk, hkp, hF⟩
  refine ⟨rfl, qv, rv_, l, seq, S, _, N + 1, base, h.setk hk hF hkp.bel (fun b hb => ⟨(hd b hb).1, (hd b hb).2.1, fun e => ?_⟩), by simp only [if_true]; omega, k2, k3, k4, k5, k6, hkp.own _ _ _ _ ho (fun e => ?_), hl, hb0, hbw, hbb, fun g hg => ⟨(hd g hg).1, (hd g hg).2.1, fun h => by cases h⟩⟩
  · have h1 := (ho.lt b hb).1
    have h2 := h.lt b e
    omega
  · have h1 := (ho.lt bb e).1
    omega

/-- Behind the reference's call: both told the same. -/
def RPZ (w : World) (qb rb bb i : Nat) (p : Option Addr) (m _c : Nat) (e : Ending) (W : World) : Prop :=
  ∃ q d ts, e = .returned (.slice q m d) ∧ RPI w qb rb bb (i + 1) W ∧ RdI W W.heap.size p m ts ∧ RdI W W.heap.size q m ts ∧ m ≤ 1000000

theorem map_filter {S : List Wt} {pick pick2 : Rd → Bool} (h : ∀ x ∈ S, pick2 (rdOf x) = pick (rdOf x)) : (S.map rdOf).filter pick2 = (S.filter fun x => pick (rdOf x)).map rdOf := by
  rw [List.filter_map]
  congr 1
  exact List.filter_congr h
theorem map_what (S : List Wt) : (S.map rdOf).map (·.1) = S.map (·.1) := by
  rw [List.map_map]
  rfl

theorem rp_told {w w0 : World} {qb rb bb i m c N base : Nat} {O : Nat → Prop} {W W' : World} {pick pick2 : Rd → Bool} {p : Option Addr} {e : Ending} {qv rv_ : Value} {l : List Wt} {seq : Int} {S : List Wt} {F : Nat → Prop} (h : RPX w w0 W qb rb bb O N qv rv_ l seq (S.map rdOf) F) (k1 : N ≤ i + 1) (k2 : QS2 S seq) (k3 : l.Perm (S.filter fun x => !pick (rdOf x))) (k4 : 0 ≤ seq) (k5 : seq ≤ 40 * (i : Int)) (k6 : S.length ≤ 40 * i)
    (ho : W.ownsRow base 3 1 (.slice p m c) m (rowOf ncells ((S.filter fun x => pick (rdOf x)).map (·.1)))) (hl : ((S.filter fun x => pick (rdOf x)).map (·.1)).length = m) (hd : ∀ g, (Value.slice p m c).ownBlock = some g → ¬ rqF rb rv_ g)
    (hpk : ∀ x ∈ S, pick2 (rdOf x) = pick (rdOf x)) (hi : i < 120) (hR : ReadyR rb w.heap.size (S.map rdOf) pick2 W e W') : RPZ w qb rb bb i p m c e W' := by
  obtain ⟨ov, lv, rfl, ho2, hq2, hF, hnew⟩ := hR
  have e1 := map_filter hpk
  have e2 : ((S.map rdOf).filter fun x => !pick2 x) = (S.filter fun x => !pick (rdOf x)).map rdOf := map_filter (pick := fun x => !pick x) (pick2 := fun x => !pick2 x) (fun x hx => by rw [hpk x hx])
  rw [e1, map_what, List.length_map, ← List.length_map (f := fun x : Wt => x.1), hl] at ho2
  rw [e2] at hq2
  obtain ⟨q, d, hov⟩ := owns_slice ho2
  subst hov
  have hx := h.setr hq2 hF hnew
  refine ⟨q, d, _, rfl, ⟨qv, lv, l, seq, S.filter (fun x => !pick (rdOf x)), F, N, hx.s, k1, k2.filter _, k3, k4, by omega, ?_⟩, RdI.of_own (hF.owns ho (fun g hg e => hd g hg (.inl e))) hl, RdI.of_own ho2 hl, ?_⟩
  · have := List.length_filter_le (fun x => !pick (rdOf x)) S
    omega
  · have := List.length_filter_le (fun x => pick (rdOf x)) S
    rw [List.length_map] at hl
    omega

theorem rp_ref_ready {w w0 : World} {qb rb bb i : Nat} {O : Nat → Prop} {W : World} {p : Option Addr} {m c : Nat} {a b : Int} (h : RPA w w0 qb rb bb O i (pickR a b) true p m c W) (hi : i < 120) :
    Calls Tryz.prog 11 #[.pointer (some ⟨rb, 0, none⟩), .int .i64 a, .int .i64 b] W (RPZ w qb rb bb i p m c) := by
  obtain ⟨qv, rv_, l, seq, S, F, N, base, h, k1, k2, k3, k4, k5, k6, ho, hl, hb0, hbw, hbb, hd⟩ := h
  simp only [if_true] at k1
  exact (ref_qready rb w.heap.size rv_ (S.map rdOf) a b W h.s.r (by rw [List.length_map]; omega)).mono fun e w' hR => rp_told (pick := pickR a b) h k1 k2 k3 k4 k5 k6 ho hl (fun g hg => (hd g hg).2.1) (fun _ _ => rfl) hi hR

theorem rp_ref_clear {w w0 : World} {qb rb bb i : Nat} {O : Nat → Prop} {W : World} {p : Option Addr} {m c : Nat} (h : RPA w w0 qb rb bb O i (fun _ => true) true p m c W) (hi : i < 120) :
    Calls Tryz.prog 13 #[.pointer (some ⟨rb, 0, none⟩)] W (RPZ w qb rb bb i p m c) := by
  obtain ⟨qv, rv_, l, seq, S, F, N, base, h, k1, k2, k3, k4, k5, k6, ho, hl, hb0, hbw, hbb, hd⟩ := h
  simp only [if_true] at k1
  refine (ref_qclear rb w.heap.size rv_ (S.map rdOf) W h.s.r (by rw [List.length_map]; omega)).mono fun e w' hR => rp_told (pick := fun _ => true) h k1 k2 k3 k4 k5 k6 ho hl (fun g hg => (hd g hg).2.1) (fun x hx => ?_) hi hR
  have := k2.ok x hx
  unfold pickR rdOf
  simp only [this.1, this.2, decide_true, Bool.and_self]

/-- The numbers of both queues' reads. -/
theorem rp_len {w : World} {qb rb bb i : Nat} {W : World} (h : RPI w qb rb bb i W) : ∃ (n c : Nat) (p : Option Addr), ∀ W', Below W.heap.size W W' → W'.cell? ⟨rb, 0, none⟩ = some (.slice p n c) ∧ Calls Tryz.prog 14 #[.pointer (some ⟨qb, 0, none⟩)] W' fun e w' => e = .returned (.int .i64 n) ∧ w' = W' := by
  obtain ⟨qv, rv_, l, seq, S, F, N, h, k1, k2, k3, k4, k5, k6⟩ := h
  obtain ⟨p, c, hv⟩ := owns_slice h.r.2.2.1
  refine ⟨(S.map rdOf).length, c, p, fun W' hW => ⟨by rw [← hv]; exact (h.r.below hW).1, (queue_len qb w.heap.size qv l seq W' (h.q.below hW)).mono fun e w' ⟨he, hw⟩ => ⟨?_, hw.symm⟩⟩⟩
  rw [he, List.length_map, k3.length_eq]

/-- The reads zs are added to the queue; k of them to the reference's. -/
def RPM (w w0 : World) (qb rb bb : Nat) (O : Nat → Prop) (i : Nat) (zs : List Rd) (n k : Nat) (W : World) : Prop :=
  ∃ qv rv_ l seq S F N, RPX w w0 W qb rb bb O N qv rv_ l (seq + n) ((insAll S seq zs k).map rdOf) F ∧ N ≤ i ∧ QS2 S seq ∧ l.Perm (S ++ numbered zs seq n) ∧ 0 ≤ seq ∧ seq ≤ 40 * (i : Int) ∧ S.length ≤ 40 * i
theorem RPM.fr {w w0 : World} {qb rb bb i n k : Nat} {O : Nat → Prop} {zs : List Rd} {W : World} (h : RPM w w0 qb rb bb O i zs n k W) : Fr (fun j => ¬ O j) w0 W := by
  obtain ⟨_, _, _, _, _, _, _, h, _⟩ := h
  exact h.fr
theorem RPM.bel {w w0 : World} {qb rb bb i n k : Nat} {O : Nat → Prop} {zs : List Rd} {W : World} (h : RPM w w0 qb rb bb O i zs n k W) : Below w.heap.size w W := by
  obtain ⟨_, _, _, _, _, _, _, h, _⟩ := h
  exact h.s.bel
theorem RPM.below {w w0 : World} {qb rb bb i n k : Nat} {O : Nat → Prop} {zs : List Rd} {W W' : World} (h : RPM w w0 qb rb bb O i zs n k W) (hb : Below W.heap.size W W') : RPM w w0 qb rb bb O i zs n k W' := by
  obtain ⟨a, b, c, d, e, f, g, h, k⟩ := h
  exact ⟨a, b, c, d, e, f, g, h.below hb, k⟩
theorem RPM.done {w w0 : World} {qb rb bb i n : Nat} {O : Nat → Prop} {zs : List Rd} {W : World} (h : RPM w w0 qb rb bb O i zs n n W) (hz : ∀ z ∈ zs, rdok z) (hl : zs.length = n) (hn : n ≤ 40) : RPI w qb rb bb (i + 1) W := by
  obtain ⟨a, b, c, d, e, f, g, h, k1, k2, k3, k4, k5, k6⟩ := h
  have e1 := insAll_length e d zs n
  exact ⟨a, b, c, _, insAll e d zs n, f, g, h.s, by omega, insAll_qs2 k2 hz hl n (Nat.le_refl _), k3.trans (insAll_perm e d zs n).symm, by omega, by omega, by omega⟩

theorem rp_add {w w0 : World} {qb rb bb i n c : Nat} {O : Nat → Prop} {zs : List Rd} {p : Option Addr} {W : World} (h : RPS w w0 qb rb bb O i W) (hz : RdG rcells W W.heap.size p n zs) (hS : ∀ b o, p = some ⟨b, o, none⟩ → O b) (hi : i < 120) (hn : n ≤ 40) :
    Calls Tryz.prog 6 #[.pointer (some ⟨qb, 0, none⟩), .slice p n c] W fun e w' => e = .returned (.tuple #[]) ∧ RPM w w0 qb rb bb O i zs n 0 w' := by
  obtain ⟨qv, rv_, l, seq, S, F, N, h, k1, k2, k3, k4, k5, k6⟩ := h
  have hl := k3.length_eq
  refine (queue_add qb w.heap.size qv l seq zs p n c W h.s.q hz (fun b o e _ hq => h.q b (hS b o e) hq) (by omega) k4 (by omega)).mono ?_
  rintro e w' ⟨rfl, v', l', hq, hp, hF, hlies⟩
  exact ⟨rfl, v', rv_, l', seq, S, F, N, h.setq hq hF hlies, k1, k2, hp.trans (k3.append_right _), k4, k5, k6⟩

theorem rp_radd {w w0 : World} {qb rb bb i n k : Nat} {O : Nat → Prop} {zs : List Rd} {W : World} (h : RPM w w0 qb rb bb O i zs n k W) (hi : i < 120) (hn : n ≤ 40) (hk : k < n) :
    Calls Tryz.prog 7 #[.pointer (some ⟨rb, 0, none⟩), rv (HL.el zs k)] W fun e w' => e = .returned (.tuple #[]) ∧ RPM w w0 qb rb bb O i zs n (k + 1) w' := by
  obtain ⟨qv, rv_, l, seq, S, F, N, h, k1, k2, k3, k4, k5, k6⟩ := h
  have e1 := insAll_length S seq zs k
  refine (ref_qadd_any rb w.heap.size rv_ _ (HL.el zs k) W h.s.r (by rw [List.length_map]; omega)).mono ?_
  rintro e w' ⟨rfl, v', hr, hF, hnew⟩
  rw [← insAll_map] at hr
  exact ⟨rfl, qv, v', l, seq, S, F, N, h.setr hr hF hnew, k1, k2, k3, k4, k5, k6⟩
end Go.Proofs.YtjpmebfegpmccaaGreat
