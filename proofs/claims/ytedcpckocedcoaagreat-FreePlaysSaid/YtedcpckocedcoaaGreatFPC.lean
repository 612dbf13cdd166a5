/- FreePlays: how each call turns the state. -/
import Derived.Test.YtedcpckocedcoaaGreatFPL
namespace Go.Proofs.YtedcpckocedcoaaGreat
open Go.RowKit

section
variable {w W W' : World} {fb rb bb N N' np np' : Nat} {l l' : List Int} {ws ws' : List (Int × Int)} {D D' : DU} {P P' : List Int} {Fq Fq' : Nat → Prop} {lv wv pv lv' wv' pv' : Value} {Fk Fk' : Nat → Prop}

/-- The real side alone, the reference alone: what links them is given anew. -/
structure FPA (w W : World) (fb rb bb N np : Nat) (l : List Int) (ws : List (Int × Int)) (D : DU) (Fq : Nat → Prop) (L : List Int) (Ws : List (Int × Int)) (P : List Int) (lv wv pv : Value) (Fk : Nat → Prop) : Prop where
  f : Fe fb w.heap.size l ws np D Fq W
  r : RFI rb w.heap.size lv wv pv L Ws P W
  k : BookN W bb w.heap.size N Fk
  fr : ∀ j, Fq j → ¬ rfF rb lv wv pv j
  fk : ∀ j, Fq j → ¬ Fk j
  rk : ∀ j, rfF rb lv wv pv j → ¬ Fk j
  bf : w.heap.size ≤ fb
  br : w.heap.size ≤ rb
  bb : w.heap.size ≤ bb
  bel : Below w.heap.size w W

theorem FPA.below {L : List Int} {Ws : List (Int × Int)} (h : FPA w W fb rb bb N np l ws D Fq L Ws P lv wv pv Fk) (hb : Below W.heap.size W W') : FPA w W' fb rb bb N np l ws D Fq L Ws P lv wv pv Fk :=
  ⟨h.f.below hb, h.r.below hb, h.k.below hb, h.fr, h.fk, h.rk, h.bf, h.br, h.bb, h.bel.trans (hb.mono h.bel.size)⟩

theorem FPA.setf {L : List Int} {Ws : List (Int × Int)} (h : FPA w W fb rb bb N np l ws D Fq L Ws P lv wv pv Fk) (hf : Fe fb w.heap.size l' ws' np' D' Fq' W') (hS : Step Fq Fq' W W') : FPA w W' fb rb bb N np' l' ws' D' Fq' L Ws P lv wv pv Fk := by
  obtain ⟨hF, hsub⟩ := hS
  refine ⟨hf, h.r.keep hF (fun k hk hk2 => h.fr k hk2 hk), h.k.keep hF (fun b hb hk => h.fk b hk hb), fun j hj hr => ?_, fun j hj hk => ?_, h.rk, h.bf, h.br, h.bb, h.bel.trans (hF.below h.bel.size (fun i hi => h.f.ge i hi))⟩
  · rcases hsub j hj with h1 | h1
    · exact h.fr j h1 hr
    · have := h.r.lt j hr; omega
  · rcases hsub j hj with h1 | h1
    · exact h.fk j h1 hk
    · have := h.k.lt j hk; omega

theorem FPA.setr {L L' : List Int} {Ws Ws' : List (Int × Int)} (h : FPA w W fb rb bb N np l ws D Fq L Ws P lv wv pv Fk) (hr : RFI rb w.heap.size lv' wv' pv' L' Ws' P' W') (hF : Fr (fun k => k = rb) W W') (hsub : ∀ j, rfF rb lv' wv' pv' j → rfF rb lv wv pv j ∨ W.heap.size ≤ j) : FPA w W' fb rb bb N np l ws D Fq L' Ws' P' lv' wv' pv' Fk := by
  refine ⟨h.f.keep hF (fun k hk e => h.fr k hk (.inl e)), hr, h.k.keep hF (fun b hb e => h.rk b (.inl e) hb), fun j hj hr2 => ?_, h.fk, fun j hj hk => ?_, h.bf, h.br, h.bb, h.bel.trans (hF.below h.bel.size (fun i hi => by rw [hi]; exact h.br))⟩
  · rcases hsub j hr2 with h1 | h1
    · exact h.fr j hj h1
    · have := h.f.lt j hj; omega
  · rcases hsub j hj with h1 | h1
    · exact h.rk j h1 hk
    · have := h.k.lt j hk; omega

theorem FPA.setk {L : List Int} {Ws : List (Int × Int)} (h : FPA w W fb rb bb N np l ws D Fq L Ws P lv wv pv Fk) {v : Value} (hk : BookN W' bb w.heap.size N' (fun b => Fk b ∨ v.ownBlock = some b ∨ (W.heap.size ≤ b ∧ b < W'.heap.size))) (hF : Fr Fk W W') (hB : Below w.heap.size W W') (h1 : ∀ b, v.ownBlock = some b → ¬ Fq b ∧ ¬ rfF rb lv wv pv b) :
    FPA w W' fb rb bb N' np l ws D Fq L Ws P lv wv pv (fun b => Fk b ∨ v.ownBlock = some b ∨ (W.heap.size ≤ b ∧ b < W'.heap.size)) := by
  refine ⟨h.f.keep hF (fun k hk => h.fk k hk), h.r.keep hF (fun k hk => h.rk k hk), hk, h.fr, fun j hj hf => ?_, fun j hj hf => ?_, h.bf, h.br, h.bb, h.bel.trans hB⟩
  · rcases hf with e | e | e
    · exact h.fk j hj e
    · exact (h1 j e).1 hj
    · have := h.f.lt j hj; omega
  · rcases hf with e | e | e
    · exact h.rk j hj e
    · exact (h1 j e).2 hj
    · have := h.r.lt j hj; omega

theorem FPW.toA (h : FPW w W fb rb bb N np l ws D P Fq lv wv pv Fk) : FPA w W fb rb bb N np l ws D Fq (CL.srt l) ws P lv wv pv Fk :=
  ⟨h.f, h.r, h.k, h.fr, h.fk, h.rk, h.bf, h.br, h.bb, h.bel⟩
theorem FPA.toW (h : FPA w W fb rb bb N np l ws D Fq (CL.srt l) ws P lv wv pv Fk) (hp : PinsR P D) (hs : P.Pairwise (· ≤ ·)) : FPW w W fb rb bb N np l ws D P Fq lv wv pv Fk :=
  ⟨h.f, h.r, h.k, h.fr, h.fk, h.rk, hp, hs, h.bf, h.br, h.bb, h.bel⟩
end

/-- The law's state ahead of step i, beside blocks O of the step's own. -/
def FPI (w : World) (fb rb bb i : Nat) (O : Nat → Prop) (W : World) : Prop :=
  ∃ N np l ws D P Fq lv wv pv Fk, FPW w W fb rb bb N np l ws D P Fq lv wv pv Fk ∧ N ≤ 250 ∧ np ≤ i ∧ P.length ≤ i ∧ l.length + ws.length ≤ 100 + 60 * i ∧ ∀ j, O j → j < W.heap.size ∧ ¬ Fq j ∧ ¬ rfF rb lv wv pv j ∧ ¬ Fk j
theorem FPI.bel {w : World} {fb rb bb i : Nat} {O : Nat → Prop} {W : World} (h : FPI w fb rb bb i O W) : Below w.heap.size w W := by
  obtain ⟨_, _, _, _, _, _, _, _, _, _, _, h, _⟩ := h
  exact h.bel
theorem FPI.less {w : World} {fb rb bb i : Nat} {O O' : Nat → Prop} {W : World} (h : FPI w fb rb bb i O W) (hO : ∀ j, O' j → O j) : FPI w fb rb bb i O' W := by
  obtain ⟨N, np, l, ws, D, P, Fq, lv, wv, pv, Fk, h, h1, h2, h3, h4, h5⟩ := h
  exact ⟨N, np, l, ws, D, P, Fq, lv, wv, pv, Fk, h, h1, h2, h3, h4, fun j hj => h5 j (hO j hj)⟩
theorem FPI.more {w : World} {fb rb bb i j : Nat} {O : Nat → Prop} {W : World} (h : FPI w fb rb bb i O W) (hj : i ≤ j) : FPI w fb rb bb j O W := by
  obtain ⟨N, np, l, ws, D, P, Fq, lv, wv, pv, Fk, h, h1, h2, h3, h4, h5⟩ := h
  exact ⟨N, np, l, ws, D, P, Fq, lv, wv, pv, Fk, h, h1, by omega, by omega, by omega, h5⟩
/-- New blocks are the step's own. -/
theorem FPI.new {w : World} {fb rb bb i : Nat} {O O' : Nat → Prop} {W W' : World} (h : FPI w fb rb bb i O W) (hb : Below W.heap.size W W') (hO : ∀ j, O' j → O j ∨ (W.heap.size ≤ j ∧ j < W'.heap.size)) : FPI w fb rb bb i O' W' := by
  obtain ⟨N, np, l, ws, D, P, Fq, lv, wv, pv, Fk, h, h1, h2, h3, h4, h5⟩ := h
  have hA := (h.toA).below hb
  refine ⟨N, np, l, ws, D, P, Fq, lv, wv, pv, Fk, hA.toW h.pins h.ps, h1, h2, h3, h4, fun j hj => ?_⟩
  rcases hO j hj with e | e
  · obtain ⟨a, b, c, d⟩ := h5 j e
    exact ⟨Nat.lt_of_lt_of_le a hb.size, b, c, d⟩
  · exact ⟨e.2, fun e2 => by have := h.f.lt j e2; omega, fun e2 => by have := h.r.lt j e2; omega, fun e2 => by have := h.k.lt j e2; omega⟩

theorem srt_head {l l' : List Int} {x : Int} (hp : (x :: l').Perm l) (hm : ∀ y ∈ l, x ≤ y) : CL.srt l = x :: CL.srt l' := by
  refine CL.srt_unique ((CL.srt_perm l).trans (hp.symm.trans (List.Perm.cons x (CL.srt_perm l').symm))) (CL.srt_sorted l) (List.pairwise_cons.2 ⟨fun y hy => ?_, CL.srt_sorted l'⟩)
  exact hm y (hp.subset (List.mem_cons_of_mem _ ((CL.srt_perm l').subset hy)))

/-- Take, of both. -/
theorem fp_take {w : World} {fb rb bb i : Nat} {O : Nat → Prop} {W : World} (h : FPI w fb rb bb i O W) (hi : i ≤ 150) :
    Calls Tryz.prog 10 #[.pointer (some ⟨fb, 0, none⟩)] W fun e w' => ∃ v ok, e = .returned (.tuple #[.int .i64 v, .bool ok]) ∧
      Calls Tryz.prog 11 #[.pointer (some ⟨rb, 0, none⟩)] w' fun e2 w'' => e2 = .returned (.tuple #[.int .i64 v, .bool ok]) ∧ FPI w fb rb bb i O w'' ∧ Fr (fun j => ¬ O j) W w'' := by
  obtain ⟨N, np, l, ws, D, P, Fq, lv, wv, pv, Fk, h, h1, h2, h3, h4, h5⟩ := h
  rcases Nat.eq_zero_or_pos l.length with h0 | h0
  · obtain rfl := List.eq_nil_of_length_eq_zero h0
    have hr := h.r
    rw [show CL.srt [] = [] by simp [CL.srt]] at hr
    refine (fe_take_none h.f).mono ?_
    rintro e w' ⟨rfl, rfl⟩
    refine ⟨0, false, rfl, (rf_take_none rb _ lv wv pv ws P _ hr).mono ?_⟩
    rintro e w'' ⟨rfl, rfl⟩
    exact ⟨rfl, ⟨N, np, [], ws, D, P, Fq, lv, wv, pv, Fk, h, h1, h2, h3, h4, h5⟩, Fr.refl _ _⟩
  · refine (fe_take h.f h0).mono ?_
    rintro e w' ⟨rfl, l', F', hf, hp, hm, hS⟩
    have hsr := srt_head hp hm
    have hA := h.toA.setf hf hS
    have hlen : (CL.srt l).length = l.length := (CL.srt_perm l).length_eq
    have hpl := hp.length_eq
    simp only [List.length_cons] at hpl
    refine ⟨_, _, rfl, (rf_take rb _ lv wv pv (CL.srt l) ws P w' hA.r (by omega) (by omega)).mono ?_⟩
    rintro e w'' ⟨lv', rfl, hr, hF, hnew⟩
    have hsub : ∀ j, rfF rb lv' wv pv j → rfF rb lv wv pv j ∨ w'.heap.size ≤ j := by
      rintro j (e | e | e | e)
      · exact .inl (.inl e)
      · exact .inr (hnew j e)
      · exact .inl (.inr (.inr (.inl e)))
      · exact .inl (.inr (.inr (.inr e)))
    have hd : (CL.srt l).drop 1 = CL.srt l' := by rw [hsr]; rfl
    rw [hd] at hr
    have hB := hA.setr hr hF hsub
    have hs1 := hS.1.size
    refine ⟨by rw [hsr]; rfl, ⟨N, np, l', ws, D, P, F', lv', wv, pv, Fk, hB.toW h.pins h.ps, h1, h2, h3, by omega, fun j hj => ?_⟩, Fr.trans (hS.1.mono (fun i _ hi hO => (h5 i hO).2.1 hi)) hF (fun i hi _ hO => (h5 i hO).2.2.1 (.inl hi))⟩
    obtain ⟨a, b, c, d⟩ := h5 j hj
    refine ⟨Nat.lt_of_lt_of_le a (Nat.le_trans hs1 hF.size), fun e => ?_, fun e => ?_, d⟩
    · rcases hS.2 j e with e2 | e2
      · exact b e2
      · omega
    · rcases hsub j e with e2 | e2
      · exact c e2
      · omega
end Go.Proofs.YtedcpckocedcoaaGreat
