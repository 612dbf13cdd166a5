/- FreePlays: Pin of both; a law that has too much to do. -/
import Derived.Test.YtedcpckocedcoaaGreatFPF
namespace Go.Proofs.YtedcpckocedcoaaGreat
open Go.RowKit

theorem PinsR.ins {M : List Int} {D : DU} {t : Int} (h : PinsR (t :: M) D) : PinsR (CL.ins M t) D := h.perm (CL.ins_perm M t).symm

/-- Pin of the real one; what the reference's row is then, and what its new row leaves. -/
theorem fp_pin {w : World} {fb rb bb i : Nat} {O : Nat → Prop} {W : World} (t : Int) (ht : (Lit.int .i64 t).wf = true) (h : FPI w fb rb bb i O W) (hi : i < 150) :
    Calls Tryz.prog 16 #[.pointer (some ⟨fb, 0, none⟩), .int .i64 t] W fun e w' => e = .returned (.tuple #[]) ∧ Fr (fun j => ¬ O j) W w' ∧ Below w.heap.size w w' ∧ ∃ (pq : Option Addr) (pn pc : Nat) (R : List Value),
      (∀ V, Below w'.heap.size w' V → V.cell? ⟨rb, 2, none⟩ = some (.slice pq pn pc) ∧ V.frozen? ⟨rb, 2, none⟩ = false) ∧
      (∀ V, Below w'.heap.size w' V → Calls Tryz.prog 17 #[.slice pq pn pc, .int .i64 t] V fun e2 w'' => ∃ u, e2 = .returned u ∧ w''.ownsRow V.heap.size 3 1 u (pn + 1) R ∧ Below V.heap.size V w'') ∧
      ∀ V u, Below w'.heap.size w' V → V.ownsRow w'.heap.size 3 1 u (pn + 1) R → FPI w fb rb bb (i + 1) O (V.setCell ⟨rb, 2, none⟩ u) ∧ Fr (fun j => ¬ O j) W (V.setCell ⟨rb, 2, none⟩ u) := by
  obtain ⟨N, np, l, ws, D, P, Fq, lv, wv, pv, Fk, h, h1, h2, h3, h4, h5⟩ := h
  refine (fe_pin_r t ht h.f h.pins (by omega) (by omega)).mono ?_
  rintro e w' ⟨rfl, D', F', hpin, hf, hS⟩
  have hA := h.toA.setf hf hS
  have hfr1 : Fr (fun j => ¬ O j) W w' := hS.1.mono (fun i _ hi hO => (h5 i hO).2.1 hi)
  obtain ⟨pq, pc, hv⟩ := owns_slice hA.r.po
  refine ⟨rfl, hfr1, hA.bel, pq, P.length, pc, rowOf ncells (CL.ins P t), fun V hV => ⟨?_, (hA.r.below hV).f2⟩, fun V hV => ?_, fun V u hV ho => ?_⟩
  · rw [← hv]
    exact (hA.r.below hV).c2
  · rw [← hv]
    exact ref_put_any t (hA.r.below hV).po rfl (by omega)
  · have hil := CL.ins_length P t
    obtain ⟨hr, hF⟩ := hA.r.set2 (P' := CL.ins P t) hV (by rw [hil]; exact owns_low ho hA.r.bs) (fun g hg => .inr (ho.lt g hg).1)
    have hsub : ∀ j, rfF rb lv wv u j → rfF rb lv wv pv j ∨ w'.heap.size ≤ j := by
      rintro j (e | e | e | e)
      · exact .inl (.inl e)
      · exact .inl (.inr (.inl e))
      · exact .inl (.inr (.inr (.inl e)))
      · exact .inr (ho.lt j e).1
    have hB := hA.setr hr hF hsub
    have hs1 := hS.1.size
    refine ⟨⟨N, np + 1, l, ws, D', CL.ins P t, F', lv, wv, u, Fk, hB.toW hpin.ins (ins_srt h.ps t), h1, by omega, by omega, by omega, fun j hj => ?_⟩, Fr.trans hfr1 hF (fun i hi _ hO => (h5 i hO).2.2.1 (.inl hi))⟩
    obtain ⟨a, b, c, d⟩ := h5 j hj
    refine ⟨Nat.lt_of_lt_of_le a (Nat.le_trans hs1 hF.size), fun e => ?_, fun e => ?_, d⟩
    · rcases hS.2 j e with e2 | e2
      · exact b e2
      · omega
    · rcases hsub j e with e2 | e2
      · exact c e2
      · omega

set_option maxHeartbeats 2000000 in
set_option maxRecDepth 100000 in
theorem fplays_no (z : Bool) (p q : Option Addr) (n c m d : Nat) (w : World) (h : 100 < n ∨ 150 < m) : Calls Tryz.prog 3 #[.slice p n c, .bool z, .slice q m d] w fun e w' => e = .returned (.bool true) ∧ Below w.heap.size w w' := by
  have HA := Lib.hid (fun w => falive_true w)
  have h6 : 100 < n ∨ (¬ 100 < n ∧ 150 < m) := by omega
  clear h
  rcases h6 with h1 | ⟨h1, h2⟩
  all_goals
    go_enter Tryz.func3, Tryz.ntmps3
    go_wp2_with fail
    refine (HA.out _).mono ?_
    rintro e w3 ⟨rfl, hb3⟩
    have HB := Lib.hid hb3
    clear hb3
    go_wp2
    go_ret
    exact ⟨rfl, HB.out⟩
end Go.Proofs.YtedcpckocedcoaaGreat
