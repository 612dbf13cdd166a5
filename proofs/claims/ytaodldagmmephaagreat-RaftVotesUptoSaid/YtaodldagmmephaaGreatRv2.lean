/- raft, plain: whom a core gives its vote to. -/
import Derived.Test.YtaodldagmmephaaGreatB6
namespace Go.Proofs.YtaodldagmmephaaGreat
open Go.RowKit Go.Maps
namespace RF
/-- A core that hears of votes alone. -/
structure Vt (L : List En) (s : RS) : Prop where
  id : s.id = 1
  role : s.role = 0
  l : s.l = L
  b : s.b = 0
  t : s.t = 0
  out : s.out = ot0
  vote : 0 ≤ s.vote ∧ s.vote ≤ 64
  votes : s.votes = []
section
variable {L : List En} {s : RS} {M : Int} {N : Nat}
/-- What is answered. -/
def vmsg (s : RS) (m : Mg) (g : Bool) : Mg := { mg0 with kd := 2, fr := s.id, tq := m.fr, tm := s.term, ok := g }
theorem vote_step (V : Vt L s) (m : Mg) (hk : m.kd = 1) :
    Vt L (s.stepF m) ∧ s.term ≤ (s.stepF m).term ∧ ((s.stepF m).term = s.term → s.vote ≠ 0 → (s.stepF m).vote = s.vote) ∧
      ((s.step m).out.ms = [] ∨ ∃ g, (s.step m).out.ms = [vmsg (s.stepF m) m g] ∧ 1 ≤ m.fr ∧ (g = true → (s.stepF m).vote = m.fr ∧ newerS 0 0 L m.ix m.lt = true)) := by
  unfold RS.stepF RS.step
  split
  case isFalse => exact ⟨⟨V.id, V.role, V.l, V.b, V.t, rfl, V.vote, V.votes⟩, Int.le_refl _, fun _ _ => rfl, .inl (by rw [V.out]; rfl)⟩
  case isTrue hh =>
    unfold RS.step0
    split
    case isTrue ht =>
      have e : s.late m = s.say { mg0 with kd := 2, tq := m.fr } := by unfold RS.late; rw [if_pos hk]
      rw [e]
      refine ⟨⟨V.id, V.role, V.l, V.b, V.t, rfl, V.vote, V.votes⟩, Int.le_refl _, fun _ _ => rfl, .inr ⟨false, ?_, hh.2.1, fun h => by cases h⟩⟩
      show s.out.ms ++ _ = _
      rw [V.out]
      rfl
    case isFalse ht =>
      have e : (s.turn m).step1 m = (s.turn m).voteReq m := by unfold RS.step1; rw [if_pos hk]
      rw [e]
      -- the core at the message's term
      have hz : Vt L { s.turn m with out := ot0 } ∧ s.term ≤ (s.turn m).term ∧ ((s.turn m).term = s.term → (s.turn m).vote = s.vote) ∧ (s.turn m).out.ms = [] := by
        unfold RS.turn
        split
        case isTrue h2 =>
          have e2 : s.down m.tm = { s with role := 0, lead := 0, term := m.tm, vote := 0, out := { s.out with hd := true } } := by unfold RS.down; rw [if_pos h2]
          rw [e2]
          refine ⟨⟨V.id, rfl, V.l, V.b, V.t, rfl, ⟨Int.le_refl _, by show (0 : Int) ≤ 64; omega⟩, V.votes⟩, by show s.term ≤ m.tm; omega, fun h => ?_, by show s.out.ms = []; rw [V.out]; rfl⟩
          have h : m.tm = s.term := h
          omega
        case isFalse h2 => exact ⟨⟨V.id, V.role, V.l, V.b, V.t, rfl, V.vote, V.votes⟩, Int.le_refl _, fun _ => rfl, by rw [V.out]; rfl⟩
      obtain ⟨Z, z1, z2, z3⟩ := hz
      generalize s.turn m = z at *
      unfold RS.voteReq
      have hnew : z.b = 0 ∧ z.t = 0 ∧ z.l = L := ⟨Z.b, Z.t, Z.l⟩
      cases hv : z.voteOk m with
      | true =>
        rw [if_pos rfl]
        have hv2 := hv
        unfold RS.voteOk at hv2
        rw [Bool.and_eq_true, Bool.and_eq_true, decide_eq_true_eq, decide_eq_true_eq] at hv2
        obtain ⟨⟨v1, v2⟩, v3⟩ := hv2
        have v1 : z.vote = 0 ∨ z.vote = m.fr := v1
        refine ⟨⟨Z.id, Z.role, Z.l, Z.b, Z.t, rfl, ⟨by show 0 ≤ m.fr; have := hh.2.1; omega, hh.2.2.1⟩, Z.votes⟩, z1, fun h hn => ?_, .inr ⟨true, ?_, hh.2.1, fun _ => ⟨rfl, ?_⟩⟩⟩
        · show m.fr = s.vote
          have := z2 h
          rcases v1 with v1 | v1 <;> omega
        · show z.out.ms ++ _ = _
          rw [z3]
          rfl
        · rw [hnew.1, hnew.2.1, hnew.2.2] at v3
          exact v3
      | false =>
        rw [if_neg Bool.false_ne_true]
        refine ⟨⟨Z.id, Z.role, Z.l, Z.b, Z.t, rfl, Z.vote, Z.votes⟩, z1, fun h _ => z2 h, .inr ⟨false, ?_, hh.2.1, fun h => by cases h⟩⟩
        show z.out.ms ++ _ = _
        rw [z3]
        rfl
/-- What was given, by terms. -/
structure Rec (TL VL : List Int) (s : RS) : Prop where
  len : TL.length = VL.length
  at' : ∀ j, j < TL.length → HL.el TL j ≤ s.term ∧ (HL.el TL j = s.term → HL.el VL j = s.vote) ∧ HL.el VL j ≠ 0
theorem Rec.step {TL VL : List Int} {s' : RS} (R : Rec TL VL s) (h1 : s.term ≤ s'.term) (h2 : s'.term = s.term → s.vote ≠ 0 → s'.vote = s.vote) : Rec TL VL s' :=
  ⟨R.len, fun j hj => by
    obtain ⟨a, b, c⟩ := R.at' j hj
    refine ⟨by omega, fun e => ?_, c⟩
    have e2 : HL.el TL j = s.term := by omega
    have := b e2
    rw [h2 (by omega) (by rw [← this]; exact c)]
    exact this⟩
theorem el_snoc {l : List Int} {x : Int} {j : Nat} (hj : j < l.length + 1) : HL.el (l ++ [x]) j = if j < l.length then HL.el l j else x := by
  unfold HL.el
  rw [List.getD_eq_getElem?_getD, List.getD_eq_getElem?_getD]
  by_cases h : j < l.length
  · rw [List.getElem?_append_left h, if_pos h]
  · rw [List.getElem?_append_right (by omega), if_neg h, show j - l.length = 0 by omega]
    rfl
theorem Rec.add {TL VL : List Int} (R : Rec TL VL s) (hv : s.vote ≠ 0) : Rec (TL ++ [s.term]) (VL ++ [s.vote]) s :=
  ⟨by rw [List.length_append, List.length_append, R.len]; rfl, fun j hj => by
    rw [List.length_append] at hj
    have hj : j < TL.length + 1 := hj
    rw [el_snoc hj, el_snoc (by rw [← R.len]; exact hj), ← R.len]
    by_cases h : j < TL.length
    · rw [if_pos h, if_pos h]; exact R.at' j h
    · rw [if_neg h, if_neg h]; exact ⟨Int.le_refl _, fun _ => rfl, hv⟩⟩
/-- A core begun anew from what it kept. -/
theorem vote_new (V : Vt L s) (B : RB M N s) : newR 1 s.term s.vote s.commit 0 0 [1, 2, 3] L ∧ Vt L (new0 1 s.term s.vote s.commit 0 0 [1, 2, 3] L) ∧ RB M N (new0 1 s.term s.vote s.commit 0 0 [1, 2, 3] L) := by
  have hl := B.log
  have hlt := B.ltm
  have hla := B.lastE
  have htp := B.top
  have hda := B.da
  have hfw := B.few
  have hlt0 := hlt
  rw [V.b, V.t, V.l] at hl hlt
  have hc := B.commit
  have h0 : 0 ≤ (lastS 0 0 L).1 ∧ (lastS 0 0 L).1 ≤ M := by
    have e : s.last = (lastS 0 0 L).1 := by show (lastS s.b s.t s.l).1 = _; rw [V.b, V.t, V.l]
    rw [← e]
    exact ⟨by rw [hla, V.b]; omega, htp⟩
  have hv123 : CL.Valid [1, 2, 3] := (valid_iff _).1 (by decide)
  refine ⟨⟨hl, ⟨by omega, by omega⟩, B.term.1, V.vote.1, hc.1, B.term.2, hv123, hlt⟩, ⟨rfl, rfl, rfl, rfl, rfl, rfl, V.vote, rfl⟩, ?_⟩
  exact ⟨⟨by show (1 : Int) ≤ 1; omega, by show (1 : Int) ≤ 64; omega⟩, hl, h0.2, B.big, by rw [V.l] at hfw; exact hfw, B.low, by rw [V.l] at hda; exact hda, hv123, (fun x hx => absurd hx List.not_mem_nil), List.nodup_nil, B.term, ⟨Int.le_refl _, by show (0 : Int) ≤ _; omega⟩, ⟨by show 0 ≤ min (max s.commit 0) (lastS 0 0 L).1; omega, by show min (max s.commit 0) (lastS 0 0 L).1 ≤ M; omega⟩, hlt⟩
end
end RF
end Go.Proofs.YtaodldagmmephaaGreat
