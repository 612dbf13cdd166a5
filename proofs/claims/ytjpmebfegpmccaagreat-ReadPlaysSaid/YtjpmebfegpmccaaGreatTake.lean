/- read's Queue: take, Ready, Clear. -/
import Derived.Test.YtjpmebfegpmccaaGreatQueue
import Derived.Maps.AppendAt
import Derived.Deep.LoopGhost
namespace Go.Proofs.YtjpmebfegpmccaaGreat
open Go.RowKit

/-- A function value is called: R holds of what it returns. -/
def CallV (P : Program) (fv : Value) (args : Array Value) (w : World) (R : Value → World → Prop) : Prop :=
  ∃ f args', (do let d ← Deferred.ofValue fv args; invoke d.target d.args : Sem Next).run P w = .ok (.enter f args') w ∧ Calls P f args' w fun e w' => ∃ v, e = .returned v ∧ R v w'

section
variable {P : Program} {ops : Array Oper} {rest : List Oper} {a : Act} {w : World} {Q : Exit → Act → World → Prop} {fv v1 : Value} {R : Value → World → Prop}
  {r x1 : Operand} {ts : Array TypeId} {d : Option Tmp} {ty : TypeId} {pos : String} {af : Array Edge} {g : Option (Nat × Bool)}
theorem wpV1 (hC : CallV P fv #[v1] w R) (hw : Region.wanted ⟨d, .call { callee := .value r, args := #[x1], argTypes := ts }, ty, pos, af, g⟩ (yielded ops a.tmps) = true) (hit : a.eval r = fv) (h1 : a.eval x1 = v1)
    (h : ∀ v w', R v w' → wpList P ops Q rest (a.put d v) w') : wpList P ops Q (⟨d, .call { callee := .value r, args := #[x1], argTypes := ts }, ty, pos, af, g⟩ :: rest) a w := by
  refine wpList_step fun K hK => ?_
  rw [if_pos hw]
  obtain ⟨f, xs, e1, e2⟩ := hC
  have e3 : (execOp a.eval ⟨d, .call { callee := .value r, args := #[x1], argTypes := ts }, ty, pos, af, g⟩).run P w = .ok (.enter f xs) w := by
    rw [← e1]
    simp only [execOp, resolve, List.map_toArray, List.map_cons, List.map_nil, hit, h1]
  unfold Oper.wp
  rw [e3]
  simp only [Oper.upon]
  exact e2.mono fun e w' ⟨v, he, hr⟩ => by subst he; exact hK _ _ (h v w' hr)
end

theorem owns_ne {w : World} {b1 b2 s1 s2 n1 n2 g : Nat} {e1 e2 : TypeId} {v1 v2 : Value} {x1 x2 : List Value} (h1 : w.ownsRow b1 e1 s1 v1 n1 x1) (h2 : w.ownsRow b2 e2 s2 v2 n2 x2) (he : e1 ≠ e2) (hg : v1.ownBlock = some g) : v2.ownBlock ≠ some g := by
  intro hg2
  rcases h1.2 with ⟨rfl, _⟩ | ⟨g1, c1, cur1, rfl, _, hb1, _⟩
  · cases hg
  · rcases h2.2 with ⟨rfl, _⟩ | ⟨g2, c2, cur2, rfl, _, hb2, _⟩
    · cases hg2
    · have e1' : g1 = g := by simpa [Value.ownBlock] using hg
      have e2' : g2 = g := by simpa [Value.ownBlock] using hg2
      subst e1' e2'
      rw [hb1] at hb2
      injection hb2 with hb2
      injection hb2 with _ ht
      exact he ht

theorem owns_base {w : World} {b b' s n : Nat} {e : TypeId} {v : Value} {x : List Value} (h : w.ownsRow b e s v n x) (hb : b' ≤ b) : w.ownsRow b' e s v n x := by
  refine ⟨h.1, ?_⟩
  rcases h.2 with h | ⟨g, c, cur, hv, hg, hr⟩
  · exact .inl h
  · exact .inr ⟨g, c, cur, hv, by omega, hr⟩

theorem bcell {W w1 : World} (hb : Below W.heap.size W w1) : (∀ b o, b < W.heap.size → w1.cell? ⟨b, o, none⟩ = W.cell? ⟨b, o, none⟩) ∧ (∀ b o, b < W.heap.size → w1.frozen? ⟨b, o, none⟩ = W.frozen? ⟨b, o, none⟩) :=
  ⟨fun b o h => hb.cell (p := ⟨b, o, none⟩) h, fun b o h => hb.frozen (p := ⟨b, o, none⟩) h⟩

/-- The read of a waiting one. -/
def rdOf (x : Wt) : Rd := (x.1, x.2.1, x.2.2.1)

/-- What holds as take goes on: T was taken, l is left. -/
structure TakeRel (pick : Rd → Bool) (qb base : Nat) (v : Value) (l0 : List Wt) (seq : Int) (w : World) (ov rv_ : Value) (T l : List Wt) (wr : World) : Prop where
  heap : ∃ v1, ReadsI qb 0 base v1 l wr ∧ v1.ownBlock = v.ownBlock
  seqc : wr.cell? ⟨qb, 1, none⟩ = some (.int .i64 seq) ∧ wr.frozen? ⟨qb, 1, none⟩ = false
  isHeap : HL.IsHeap wlt l
  perm : (T ++ l).Perm l0
  sorted : T.Pairwise fun a b => wlt b a = false
  ahead : ∀ t ∈ T, ∀ y ∈ l, wlt y t = false
  out : wr.ownsRow w.heap.size 3 1 ov (T.filter fun x => pick (rdOf x)).length (rowOf ncells ((T.filter fun x => pick (rdOf x)).map (·.1)))
  rest : wr.ownsRow w.heap.size 66 4 rv_ (T.filter fun x => !pick (rdOf x)).length (rowOf wcells (T.filter fun x => !pick (rdOf x)))
  frame : Fr (queueF qb v) w wr

theorem take_sorted {T l l' : List Wt} {x : Wt} (hs : T.Pairwise fun a b => wlt b a = false) (ha : ∀ t ∈ T, ∀ y ∈ l, wlt y t = false) (hx : x ∈ l) (hm : ∀ y ∈ l, wlt y x = false) (hsub : ∀ y ∈ l', y ∈ l) :
    (T ++ [x]).Pairwise (fun a b => wlt b a = false) ∧ (∀ t ∈ T ++ [x], ∀ y ∈ l', wlt y t = false) := by
  refine ⟨List.pairwise_append.2 ⟨hs, List.pairwise_singleton _ _, fun a ha' b hb => ?_⟩, fun t ht y hy => ?_⟩
  · rw [List.mem_singleton.1 hb]; exact ha a ha' x hx
  · rcases List.mem_append.1 ht with h | h
    · exact ha t h y (hsub y hy)
    · rw [List.mem_singleton.1 h]; exact hm y (hsub y hy)
theorem TakeRel.next {pick : Rd → Bool} {qb base : Nat} {v v1 v2 : Value} {l0 l l2 T : List Wt} {seq : Int} {w wr w2 w4 : World} {ov rv_ ov4 rv4 : Value} {x : Wt} (R : TakeRel pick qb base v l0 seq w ov rv_ T l wr)
    (hx : x ∈ l) (hm : ∀ y ∈ l, wlt y x = false) (hI : ReadsI qb 0 base v2 l2 w2 ∧ HL.IsHeap wlt l2 ∧ (x :: l2).Perm l ∧ v2.ownBlock = v1.ownBlock ∧ Others qb 0 wr w2) (hv1 : v1.ownBlock = v.ownBlock) (hF20 : Fr (queueF qb v) w w2)
    (hqF : ∀ k, queueF qb v k → k < w.heap.size) (hF24 : Fr (fun k => w.heap.size ≤ k) w2 w4)
    (ho : w4.ownsRow w.heap.size 3 1 ov4 ((T ++ [x]).filter fun x => pick (rdOf x)).length (rowOf ncells (((T ++ [x]).filter fun x => pick (rdOf x)).map (·.1))))
    (hr : w4.ownsRow w.heap.size 66 4 rv4 ((T ++ [x]).filter fun x => !pick (rdOf x)).length (rowOf wcells ((T ++ [x]).filter fun x => !pick (rdOf x)))) : TakeRel pick qb base v l0 seq w ov4 rv4 (T ++ [x]) l2 w4 := by
  obtain ⟨hI2, hh2, hp2, hv2, hoth⟩ := hI
  have hqb : qb < w.heap.size := hqF qb (.inl rfl)
  have hno : ∀ k, queueF qb v k → ¬ w.heap.size ≤ k := fun k hk h => by have := hqF k hk; omega
  have hs := take_sorted R.sorted R.ahead hx hm (fun y hy => hp2.subset (List.mem_cons_of_mem _ hy))
  have hlt2 : qb < w2.heap.size := Nat.lt_of_lt_of_le hqb hF20.size
  refine ⟨⟨v2, hI2.keep hF24 (hno qb (.inl rfl)) (fun g hg => hno g (.inr (by rw [← hv1, ← hv2]; exact hg))), hv2.trans hv1⟩, ⟨?_, ?_⟩, hh2, ?_, hs.1, hs.2, ho, hr, Fr.trans hF20 hF24 (fun i hi hlt => by omega)⟩
  · rw [hF24.cell (p := ⟨qb, 1, none⟩) hlt2 (hno qb (.inl rfl)), (hoth 1 (by omega)).1]
    exact R.seqc.1
  · rw [hF24.frozen (p := ⟨qb, 1, none⟩) hlt2 (hno qb (.inl rfl)), (hoth 1 (by omega)).2]
    exact R.seqc.2
  · rw [List.append_assoc]
    exact (hp2.append_left T).trans R.perm

/-- What take leaves: T is what the queue had, in its order. -/
def TakePost (pick : Rd → Bool) (qb base : Nat) (v : Value) (l0 : List Wt) (seq : Int) (w : World) (e : Ending) (w' : World) : Prop :=
  ∃ (ov : Value) (T : List Wt) (v' : Value) (l' : List Wt), e = .returned ov ∧ T.Perm l0 ∧ T.Pairwise (fun a b => wlt b a = false) ∧ w'.ownsRow w.heap.size 3 1 ov (T.filter fun x => pick (rdOf x)).length (rowOf ncells ((T.filter fun x => pick (rdOf x)).map (·.1))) ∧
    QueueI qb base v' l' seq w' ∧ l'.Perm (T.filter fun x => !pick (rdOf x)) ∧ Fr (queueF qb v) w w' ∧ (∀ g, v'.ownBlock = some g → w.heap.size ≤ g)

set_option maxHeartbeats 2000000 in
set_option maxRecDepth 100000 in
theorem queue_take (pick : Rd → Bool) (fv : Value) (qb base : Nat) (v : Value) (l0 : List Wt) (seq : Int) (w : World) (h : QueueI qb base v l0 seq w)
    (hpick : ∀ W, Fr (queueF qb v) w W → ∀ x : Rd, CallV Tryz.prog fv #[rv x] W fun u W' => u = .bool (pick x) ∧ Below W.heap.size W W') :
    Calls Tryz.prog 17 #[.pointer (some ⟨qb, 0, none⟩), fv] w (TakePost pick qb base v l0 seq w) := by
  have HP := Lib.hid hpick; clear hpick
  obtain ⟨i1, hi1, hz10, hz11, hz12⟩ := info_parts info_int
  obtain ⟨i2, hi2, hz20, hz21, hz22⟩ := info_parts info_wt
  have hqb := cell_lt h.1.1
  have hqF : ∀ k, queueF qb v k → k < w.heap.size := h.lt
  have HQF := Lib.hid hqF
  have hl0 := h.1.2.2.2.2.1
  have HST : Hid (TakeRel pick qb base v l0 seq w (.slice none 0 0) (.slice none 0 0) [] l0 w) :=
    ⟨⟨v, h.1, rfl⟩, ⟨h.2.1, h.2.2.1⟩, h.2.2.2, by simp, List.Pairwise.nil, by simp, World.ownsRow_nil _ _ _ _, World.ownsRow_nil _ _ _ _, Fr.refl _ _⟩
  have hbase := h.1.2.2.2.2.2
  clear h hqF
  have hta := ta_wt
  go_enter Tryz.func17, Tryz.ntmps17
  go_wp2
  go_loopg [5, 6, 7] l0.length (fun k ov rv_ _ wr => ∃ T l, l.length = k ∧ TakeRel pick qb base v l0 seq w ov rv_ T l wr)
  case atStart => exact ⟨[], l0, rfl, HST.out⟩
  case round =>
    clear HST
    obtain ⟨T, l, hk, R⟩ := hrel
    obtain ⟨v1, hI, hv1⟩ := R.heap
    obtain ⟨p1, c1, hs1⟩ := owns_slice hI.2.2.1
    have hc := hI.1
    rw [hs1] at hc
    have hlm := hI.2.2.2.2.1
    have HK := Lib.hid hk; clear hk
    have HR := Lib.hid R
    have hfs := R.frame.size
    by_cases hl : 0 < l.length
    · have HPOP := Lib.hid (heap_pop_reads qb 0 base v1 l wr hI R.isHeap hl)
      have HV1 := Lib.hid hv1
      have HS1 := Lib.hid hs1
      have HMIN := Lib.hid (fun y hy => R.isHeap.least_mem wlt_ord y hy)
      have HEM := Lib.hid (HL.el_mem l 0 hl)
      clear hI hv1 hs1 R
      generalize HL.el l 0 = x at *
      obtain ⟨x0, x1, x2, x3⟩ := x
      go_wp2_with fail
      refine HPOP.out.mono ?_
      rintro e w2 ⟨u, rfl, v2, l2, rfl, hI2, hh2, hp2, hF2, hv2, hoth⟩
      have hF20 : Fr (queueF qb v) w w2 := Fr.trans HR.out.frame hF2 (fun i hi hlt => by unfold queueF; rw [← HV1.out]; exact hi)
      have hno : ∀ (u : Value) (g : Nat), (∀ g, u.ownBlock = some g → w.heap.size ≤ g) → u.ownBlock = some g → ¬ (g = qb ∨ v1.ownBlock = some g) := by
        intro u g hu hg hs
        have := hu g hg
        have := HQF.out g (by unfold queueF; rw [← HV1.out]; exact hs)
        omega
      have hA2 : Fr (fun _ => False) w2 (w2.alloc (.cells #[.int .i64 x0, .int .i64 x1, .int .i64 x2, .int .i64 x3] 66)) := (Fr.refl (fun _ => False) w2).alloc _
      have hcc : ∀ w3, Below (w2.alloc (.cells #[.int .i64 x0, .int .i64 x1, .int .i64 x2, .int .i64 x3] 66)).heap.size (w2.alloc (.cells #[.int .i64 x0, .int .i64 x1, .int .i64 x2, .int .i64 x3] 66)) w3 →
          (w3.cell? ⟨w2.heap.size, 0, none⟩ = some (.int .i64 x0) ∧ w3.cell? ⟨w2.heap.size, 1, none⟩ = some (.int .i64 x1) ∧ w3.cell? ⟨w2.heap.size, 2, none⟩ = some (.int .i64 x2) ∧ w3.cell? ⟨w2.heap.size, 3, none⟩ = some (.int .i64 x3)) ∧ w2.heap.size < w3.heap.size ∧ Fr (fun _ => False) w2 w3 := by
        intro w3 hb3
        obtain ⟨hc3, _⟩ := bcell hb3
        refine ⟨⟨?_, ?_, ?_, ?_⟩, by have := hb3.size; simp at this; omega, Fr.trans hA2 (Fr.of_all hb3) (fun _ h _ => h)⟩ <;> (rw [hc3 _ _ (by simp)]; go_simp)
      have HPK := Lib.hid (HP.out _ (Fr.trans hF20 hA2 (fun _ h _ => h.elim)) (x0, x1, x2))
      have HOUT : Hid (∀ w3, Fr (fun _ => False) w2 w3 → w3.ownsRow w.heap.size 3 1 u5 (T.filter fun x => pick (rdOf x)).length (rowOf ncells ((T.filter fun x => pick (rdOf x)).map (·.1))) ∧ w3.ownsRow w.heap.size 66 4 u6 (T.filter fun x => !pick (rdOf x)).length (rowOf wcells (T.filter fun x => !pick (rdOf x)))) := by
        intro w3 h3
        have ho := HR.out.out
        have hr := HR.out.rest
        exact ⟨h3.owns (hF2.owns ho (fun g hg => hno u5 g (fun g hg => (ho.lt g hg).1) hg)) (fun _ _ h => h), h3.owns (hF2.owns hr (fun g hg => hno u6 g (fun g hg => (hr.lt g hg).1) hg)) (fun _ _ h => h)⟩
      have HCC := Lib.hid hcc
      have HF20 := Lib.hid hF20
      have HI2 := Lib.hid (And.intro hI2 (And.intro hh2 (And.intro hp2 (And.intro hv2 hoth))))
      have hfl : (T.filter fun x => pick (rdOf x)).length ≤ 1000000 := by
        have h1 := List.length_filter_le (fun x => pick (rdOf x)) T
        have h2 := HR.out.perm.length_eq
        rw [List.length_append] at h2
        omega
      have hfr : (T.filter fun x => !pick (rdOf x)).length ≤ 1000000 := by
        have h1 := List.length_filter_le (fun x => !pick (rdOf x)) T
        have h2 := HR.out.perm.length_eq
        rw [List.length_append] at h2
        omega
      have hs2 := HF20.out.size
      clear hI2 hh2 hp2 hv2 hoth hF20 hF2 hno hcc hA2 HPOP
      cases hpk : pick (x0, x1, x2) with
      | true =>
        rw [hpk] at HPK
        have HPKV := Lib.hid hpk; clear hpk
        generalize hN : (T.filter fun x => pick (rdOf x)).length = N at *
        have HN := Lib.hid hN; clear hN
        go_wp2_with (first
          | ((with_reducible refine wpV1 HPK.out ?_ ?_ ?_ ?_); rfl; rfl; rfl; rintro u w3 ⟨rfl, hb3⟩; obtain ⟨⟨c0, c1, c2, c3⟩, hz3, hf3⟩ := HCC.out _ hb3; have HO3 := Lib.hid (HOUT.out _ hf3); have HF3 := Lib.hid hf3; clear hb3 hf3)
          | (at_builtin; refine wpList_append_own _ rfl _ _ 56 rfl w.heap.size 3 i1 _ 1 8 Tryz.underlying56 hi1 hz10 hz11 hz12 rfl (by omega) u5 N _ rfl (HO3.out.1.alloc _) ⟨w3.heap.size, 0, none⟩ 1 1 [.int .i64 x0] rfl rfl ?c2 ?c3 ?c4 ?c5 ?c6 ?_; (case c2 => exact new_cells w3 _ _); (case c3 => simp [Value.oneCell']); (case c4 => unfold maxLen; omega); (case c5 => omega); (case c6 => simp; omega); intro v4 w4 hown4 hgr4 _; have H4 := Lib.hid (And.intro hown4 hgr4); clear hown4 hgr4))
        have hlen2 : l2.length + 1 = l.length := by rw [← HI2.out.2.2.1.length_eq]; rfl
        have HN4 : Hid (TakeRel pick qb base v l0 seq w v4 u6 (T ++ [(x0, x1, x2, x3)]) l2 w4) := by
          have e1 : (T ++ [(x0, x1, x2, x3)]).filter (fun x => pick (rdOf x)) = T.filter (fun x => pick (rdOf x)) ++ [(x0, x1, x2, x3)] := by
            rw [List.filter_append]; congr 1; simp [rdOf, HPKV.out]
          have e2 : (T ++ [(x0, x1, x2, x3)]).filter (fun x => !pick (rdOf x)) = T.filter (fun x => !pick (rdOf x)) := by
            rw [List.filter_append]; simp [rdOf, HPKV.out]
          have hfa : Fr (fun k => w.heap.size ≤ k) w3 w4 := Fr.trans ((Fr.refl _ w3).alloc _) (Fr.of_grown H4.out.2 (fun i _ hi => (HO3.out.1.lt i hi).1)) (fun i hi _ => hi)
          refine TakeRel.next HR.out HEM.out HMIN.out HI2.out HV1.out HF20.out HQF.out (Fr.trans (HF3.out.mono (fun _ _ h => h.elim)) hfa (fun i hi _ => hi)) ?_ ?_
          · rw [e1, List.length_append, List.map_append, rowOf_append, HN.out]
            exact H4.out.1
          · rw [e2]
            exact (HO3.out.2.alloc _).kept H4.out.2 (by
              cases hob : Value.ownBlock u6 with
              | none => exact .inl rfl
              | some g => exact .inr (fun h => owns_ne HO3.out.2 HO3.out.1 (by decide) hob h.symm))
        go_roundg (l2.length)
        case measure => rw [← HK.out]; omega
        case rel => exact ⟨_, l2, rfl, HN4.out⟩
      | false =>
        rw [hpk] at HPK
        have HPKV := Lib.hid hpk; clear hpk
        generalize hN : (T.filter fun x => !pick (rdOf x)).length = N at *
        have HN := Lib.hid hN; clear hN
        go_wp2_with (first
          | ((with_reducible refine wpV1 HPK.out ?_ ?_ ?_ ?_); rfl; rfl; rfl; rintro u w3 ⟨rfl, hb3⟩; obtain ⟨⟨c0, c1, c2, c3⟩, hz3, hf3⟩ := HCC.out _ hb3; have HO3 := Lib.hid (HOUT.out _ hf3); have HF3 := Lib.hid hf3; clear hb3 hf3)
          | (at_builtin; refine wpList_append_own _ rfl _ _ 31 rfl w.heap.size 66 i2 _ 4 32 Tryz.underlying31 hi2 hz20 hz21 hz22 rfl (by omega) u6 N _ rfl (HO3.out.2.alloc _) ⟨w3.heap.size, 0, none⟩ 1 1 [.int .i64 x0, .int .i64 x1, .int .i64 x2, .int .i64 x3] rfl rfl ?c2 ?c3 ?c4 ?c5 ?c6 ?_; (case c2 => exact new_cells w3 _ _); (case c3 => simp [Value.oneCell']); (case c4 => unfold maxLen; omega); (case c5 => omega); (case c6 => simp; omega); intro v4 w4 hown4 hgr4 _; have H4 := Lib.hid (And.intro hown4 hgr4); clear hown4 hgr4))
        have hlen2 : l2.length + 1 = l.length := by rw [← HI2.out.2.2.1.length_eq]; rfl
        have HN4 : Hid (TakeRel pick qb base v l0 seq w u5 v4 (T ++ [(x0, x1, x2, x3)]) l2 w4) := by
          have e1 : (T ++ [(x0, x1, x2, x3)]).filter (fun x => !pick (rdOf x)) = T.filter (fun x => !pick (rdOf x)) ++ [(x0, x1, x2, x3)] := by
            rw [List.filter_append]; congr 1; simp [rdOf, HPKV.out]
          have e2 : (T ++ [(x0, x1, x2, x3)]).filter (fun x => pick (rdOf x)) = T.filter (fun x => pick (rdOf x)) := by
            rw [List.filter_append]; simp [rdOf, HPKV.out]
          have hfa : Fr (fun k => w.heap.size ≤ k) w3 w4 := Fr.trans ((Fr.refl _ w3).alloc _) (Fr.of_grown H4.out.2 (fun i _ hi => (HO3.out.2.lt i hi).1)) (fun i hi _ => hi)
          refine TakeRel.next HR.out HEM.out HMIN.out HI2.out HV1.out HF20.out HQF.out (Fr.trans (HF3.out.mono (fun _ _ h => h.elim)) hfa (fun i hi _ => hi)) ?_ ?_
          · rw [e2]
            exact (HO3.out.1.alloc _).kept H4.out.2 (by
              cases hob : Value.ownBlock u5 with
              | none => exact .inl rfl
              | some g => exact .inr (fun h => owns_ne HO3.out.1 HO3.out.2 (by decide) hob h.symm))
          · rw [e1, List.length_append, rowOf_append, HN.out]
            exact H4.out.1
        go_roundg (l2.length)
        case measure => rw [← HK.out]; omega
        case rel => exact ⟨_, l2, rfl, HN4.out⟩
    · have hl' : l.length = 0 := by omega
      obtain rfl : l = [] := List.eq_nil_of_length_eq_zero hl'
      obtain ⟨p6, c6, h6⟩ := owns_slice R.rest
      have hfz := hI.2.1
      have hqw := Nat.lt_of_lt_of_le hqb hfs
      have hno6 : ∀ g, Value.ownBlock u6 = some g → w.heap.size ≤ g := fun g hg => (R.rest.lt g hg).1
      have hno5 : ∀ g, Value.ownBlock u5 = some g → w.heap.size ≤ g := fun g hg => (R.out.lt g hg).1
      have HW : Hid (ReadsI qb 0 base u6 (T.filter fun x => !pick (rdOf x)) (wr.setCell ⟨qb, 0, none⟩ u6)) := by
        have hF : Fr (fun k => k = qb) wr (wr.setCell ⟨qb, 0, none⟩ u6) := (Fr.refl (fun k => k = qb) wr).setCell (p := ⟨qb, 0, none⟩) (fun _ => rfl) _
        refine ⟨cell_set_same _ _ _ _ hI.1, by rw [frozen_set]; exact hfz, owns_base (hF.owns R.rest (fun g hg e => by have := hno6 g hg; omega)) hbase, fun e => by have := hno6 qb e; omega, ?_, Nat.le_trans hbase (Nat.le_trans hfs hF.size)⟩
        have h1 := List.length_filter_le (fun x => !pick (rdOf x)) T
        have h2 := R.perm.length_eq
        rw [List.append_nil] at h2
        omega
      have HI5 : Hid ((wr.setCell ⟨qb, 0, none⟩ u6).ownsRow w.heap.size 3 1 u5 (T.filter fun x => pick (rdOf x)).length (rowOf ncells ((T.filter fun x => pick (rdOf x)).map (·.1)))) :=
        ((Fr.refl (fun k => k = qb) wr).setCell (p := ⟨qb, 0, none⟩) (fun _ => rfl) _).owns R.out (fun g hg e => by have := hno5 g hg; omega)
      have HSQ : Hid ((wr.setCell ⟨qb, 0, none⟩ u6).cell? ⟨qb, 1, none⟩ = some (.int .i64 seq) ∧ (wr.setCell ⟨qb, 0, none⟩ u6).frozen? ⟨qb, 1, none⟩ = false) :=
        ⟨((Others.set qb 0 wr u6) 1 (by omega)).1.trans R.seqc.1, ((Others.set qb 0 wr u6) 1 (by omega)).2.trans R.seqc.2⟩
      have HNE : Hid (∀ g, Value.ownBlock u6 = some g → Value.ownBlock u5 ≠ some g) := fun g hg => owns_ne R.rest R.out (by decide) hg
      have HFW : Hid (Fr (queueF qb v) w (wr.setCell ⟨qb, 0, none⟩ u6)) := R.frame.setCell (p := ⟨qb, 0, none⟩) (fun _ => .inl rfl) _
      have HNO6 := Lib.hid hno6
      have hqc := hI.1
      have HPM := Lib.hid (by have := R.perm; rw [List.append_nil] at this; exact this)
      have HSO := Lib.hid R.sorted
      rw [hs1] at hqc
      clear R hI hv1 hs1 HR hno5 hno6 hc
      subst h6
      go_wp2_with fail
      refine (heap_init (reads_rep _ _ _ _) _ HW.out).mono ?_
      rintro e w5 ⟨rfl, l5, hI5, hF5, hp5, hh5⟩
      have hq1 : qb < (wr.setCell ⟨qb, 0, none⟩ (.slice p6 (T.filter fun x => !pick (rdOf x)).length c6)).heap.size := by simpa [World.setCell] using hqw
      have hnq : ¬ (Value.ownBlock (.slice p6 (T.filter fun x => !pick (rdOf x)).length c6) = some qb) := HW.out.2.2.2.1
      have HFIN : Hid (TakePost pick qb base v l0 seq w (.returned u5) w5) :=
        ⟨u5, T, _, l5, rfl, HPM.out, HSO.out, Fr.owns hF5 HI5.out (fun g hg h => HNE.out g h hg), ⟨hI5, (hF5.cell (p := ⟨qb, 1, none⟩) hq1 hnq).trans HSQ.out.1, (hF5.frozen (p := ⟨qb, 1, none⟩) hq1 hnq).trans HSQ.out.2, hh5⟩, hp5, Fr.trans HFW.out hF5 (fun i hi hlt => by have := HNO6.out i hi; omega), HNO6.out⟩
      clear hI5 hF5 hp5 hh5
      go_wp2
      go_ret
      exact HFIN.out
end Go.Proofs.YtjpmebfegpmccaaGreat
