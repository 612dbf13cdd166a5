/- FreePlays: Give and Back of both. -/
import Derived.Test.YtedcpckocedcoaaGreatFPC
namespace Go.Proofs.YtedcpckocedcoaaGreat
open Go.RowKit

/-- A slice that both may read: in a block of the step's own, or an argument's. -/
def Away (w : World) (O : Nat → Prop) (n : Nat) (p : Option Addr) : Prop := ∀ b o, p = some ⟨b, o, none⟩ → 0 < n → O b ∨ b < w.heap.size

theorem RFI.ge {rb base : Nat} {lv wv pv : Value} {L : List Int} {Ws : List (Int × Int)} {P : List Int} {w : World} (h : RFI rb base lv wv pv L Ws P w) : ∀ k, rfF rb lv wv pv k → base ≤ k := by
  rintro k (rfl | e | e | e)
  · exact h.bb
  · exact (h.lo.lt k e).1
  · exact (h.wo.lt k e).1
  · exact (h.po.lt k e).1

/-- Give, of both. -/
theorem fp_give {w : World} {fb rb bb i n c c2 : Nat} {O : Nat → Prop} {W : World} {t : Int} {zs : List Int} {p p2 : Option Addr} (h : FPI w fb rb bb i O W) (hi : i < 150) (hn : n ≤ 60) (hp : RdI W W.heap.size p n zs) (ha : Away w O n p) (ha2 : Away w O n p2)
    (hkeep : ∀ W', Fr (fun j => ¬ O j) W W' → Below w.heap.size w W' → RdI W' W'.heap.size p2 n zs) :
    Calls Tryz.prog 12 #[.pointer (some ⟨fb, 0, none⟩), .int .i64 t, .slice p n c] W fun e w' => e = .returned (.tuple #[]) ∧ Fr (fun j => ¬ O j) W w' ∧ Below w.heap.size w w' ∧
      Calls Tryz.prog 13 #[.pointer (some ⟨rb, 0, none⟩), .int .i64 t, .slice p2 n c2] w' fun e2 w'' => e2 = .returned (.tuple #[]) ∧ FPI w fb rb bb (i + 1) O w'' ∧ Fr (fun j => ¬ O j) W w'' := by
  obtain ⟨N, np, l, ws, D, P, Fq, lv, wv, pv, Fk, h, h1, h2, h3, h4, h5⟩ := h
  have hl := hp.1
  refine (fe_give t p n c zs h.f hp (fun b o e h0 hF => ?_) (by omega)).mono ?_
  · rcases ha b o e h0 with h9 | h9
    · exact (h5 b h9).2.1 hF
    · have := h.f.ge b hF; omega
  rintro e w' ⟨rfl, F', hf, hS⟩
  have hA := h.toA.setf hf hS
  have hfr1 : Fr (fun j => ¬ O j) W w' := hS.1.mono (fun i _ hi hO => (h5 i hO).2.1 hi)
  refine ⟨rfl, hfr1, hA.bel, (rf_give rb _ lv wv pv (CL.srt l) ws P t zs p2 n c2 w' hA.r (hkeep w' hfr1 hA.bel) (fun b o e h0 hb => ?_) (by omega)).mono ?_⟩
  · rcases ha2 b o e h0 with h9 | h9
    · exact (h5 b h9).2.2.1 (.inl hb)
    · have := h.br; omega
  rintro e w'' ⟨rfl, wv', hr, hF, hnew⟩
  have hsub : ∀ j, rfF rb lv wv' pv j → rfF rb lv wv pv j ∨ w'.heap.size ≤ j := by
    rintro j (e | e | e | e)
    · exact .inl (.inl e)
    · exact .inl (.inr (.inl e))
    · exact .inr (hnew j e)
    · exact .inl (.inr (.inr (.inr e)))
  have hg : given t zs n = zs.map (fun x => (t, x)) := by
    unfold given
    rw [List.take_of_length_le (by omega)]
  rw [hg] at hr
  have hB := hA.setr hr hF hsub
  have hs1 := hS.1.size
  refine ⟨rfl, ⟨N, np, l, _, D, P, F', lv, wv', pv, Fk, hB.toW h.pins h.ps, h1, by omega, by omega, by rw [List.length_append, List.length_map, hl]; omega, fun j hj => ?_⟩, Fr.trans hfr1 hF (fun i hi _ hO => (h5 i hO).2.2.1 (.inl hi))⟩
  obtain ⟨a, b, c, d⟩ := h5 j hj
  refine ⟨Nat.lt_of_lt_of_le a (Nat.le_trans hs1 hF.size), fun e => ?_, fun e => ?_, d⟩
  · rcases hS.2 j e with e2 | e2
    · exact b e2
    · omega
  · rcases hsub j e with e2 | e2
    · exact c e2
    · omega

/-- Back, of both. -/
theorem fp_back {w : World} {fb rb bb i n c c2 : Nat} {O : Nat → Prop} {W : World} {zs : List Int} {p p2 : Option Addr} (h : FPI w fb rb bb i O W) (hi : i < 150) (hn : n ≤ 60) (hp : RdI W W.heap.size p n zs) (ha : Away w O n p) (ha2 : Away w O n p2)
    (hkeep : ∀ W', Fr (fun j => ¬ O j) W W' → Below w.heap.size w W' → RdI W' W'.heap.size p2 n zs) :
    Calls Tryz.prog 14 #[.pointer (some ⟨fb, 0, none⟩), .slice p n c] W fun e w' => e = .returned (.tuple #[]) ∧ Fr (fun j => ¬ O j) W w' ∧ Below w.heap.size w w' ∧
      Calls Tryz.prog 15 #[.pointer (some ⟨rb, 0, none⟩), .slice p2 n c2] w' fun e2 w'' => e2 = .returned (.tuple #[]) ∧ FPI w fb rb bb (i + 1) O w'' ∧ Fr (fun j => ¬ O j) W w'' := by
  obtain ⟨N, np, l, ws, D, P, Fq, lv, wv, pv, Fk, h, h1, h2, h3, h4, h5⟩ := h
  have hl := hp.1
  refine (fe_back p n c zs h.f hp (fun b o e h0 hF => ?_) (by omega)).mono ?_
  · rcases ha b o e h0 with h9 | h9
    · exact (h5 b h9).2.1 hF
    · have := h.f.ge b hF; omega
  rintro e w' ⟨rfl, l', F', hf, hperm, hS⟩
  have hA := h.toA.setf hf hS
  have hfr1 : Fr (fun j => ¬ O j) W w' := hS.1.mono (fun i _ hi hO => (h5 i hO).2.1 hi)
  have hls : (CL.srt l).length = l.length := (CL.srt_perm l).length_eq
  have hpl := hperm.length_eq
  rw [List.length_append, hl] at hpl
  refine ⟨rfl, hfr1, hA.bel, (rf_back rb _ lv wv pv (CL.srt l) zs ws P p2 n c2 w' hA.r (hkeep w' hfr1 hA.bel) (fun b o e h0 hb => ?_) (by omega)).mono ?_⟩
  · rcases ha2 b o e h0 with h9 | h9
    · exact (h5 b h9).2.2.1 (.inl hb)
    · have := h.br; omega
  rintro e w'' ⟨rfl, lv', hr, hF, hnew⟩
  have hsub : ∀ j, rfF rb lv' wv pv j → rfF rb lv wv pv j ∨ w'.heap.size ≤ j := by
    rintro j (e | e | e | e)
    · exact .inl (.inl e)
    · rcases hnew j e with h9 | h9
      · exact .inl (.inr (.inl h9))
      · exact .inr h9
    · exact .inl (.inr (.inr (.inl e)))
    · exact .inl (.inr (.inr (.inr e)))
  rw [insMany_srt l zs n (by omega), ← srt_perm_eq hperm] at hr
  have hB := hA.setr hr hF hsub
  have hs1 := hS.1.size
  refine ⟨rfl, ⟨N, np, l', ws, D, P, F', lv', wv, pv, Fk, hB.toW h.pins h.ps, h1, by omega, by omega, by omega, fun j hj => ?_⟩, Fr.trans hfr1 hF (fun i hi _ hO => (h5 i hO).2.2.1 (.inl hi))⟩
  obtain ⟨a, b, c, d⟩ := h5 j hj
  refine ⟨Nat.lt_of_lt_of_le a (Nat.le_trans hs1 hF.size), fun e => ?_, fun e => ?_, d⟩
  · rcases hS.2 j e with e2 | e2
    · exact b e2
    · omega
  · rcases hsub j e with e2 | e2
    · exact c e2
    · omega
end Go.Proofs.YtedcpckocedcoaaGreat
