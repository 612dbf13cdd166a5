/- raft, plain: where the answers begin; the law's own list of what each member has. -/
import Derived.Test.YtaodldagmmephaaGreatRk1
namespace Go.Proofs.YtaodldagmmephaaGreat
open Go.RowKit Go.Maps
namespace RF
/-- All the others are known. -/
def okQ (n : Nat) : Nat → RS → Bool
  | 0, s => (idsN n).all fun i => decide (i = 1) || (pget s.ps i).isSome
  | f + 1, s => ((idsN n).all fun i => decide (i = 1) || (pget s.ps i).isSome) && okQ n f ((s.propSC 1 ⟨#[120]⟩).fin)
theorem okQ_all : ((List.range 5).all fun i => okQ (i + 1) 20 (gPC (i + 1) 0)) = true := by decide +kernel
theorem okQ_step (n : Nat) : ∀ (f c k : Nat), okQ n f (gPC n c) = true → k ≤ f → ((idsN n).all fun i => decide (i = 1) || (pget (gPC n (c + k)).ps i).isSome) = true
  | f, c, 0, h, _ => by
    cases f with
    | zero => exact h
    | succ f =>
      unfold okQ at h
      rw [Bool.and_eq_true] at h
      exact h.1
  | 0, c, k + 1, h, hk => by omega
  | f + 1, c, k + 1, h, hk => by
    unfold okQ at h
    rw [Bool.and_eq_true] at h
    have h2 := okQ_step n f (c + 1) k h.2 (by omega)
    rw [show c + (k + 1) = c + 1 + k by omega]
    exact h2
theorem gP_known (n c : Nat) (h1 : 1 ≤ n) (h5 : n ≤ 5) (hc : c ≤ 20) (i : Nat) (h2 : 2 ≤ i) (hi : i ≤ n) : ∃ p, pget (gP n c).ps (i : Int) = some p := by
  have h := okQ_all
  rw [List.all_eq_true] at h
  have h3 := h (n - 1) (List.mem_range.2 (by omega))
  rw [show n - 1 + 1 = n by omega] at h3
  have h4 := okQ_step n 20 0 c h3 hc
  rw [Nat.zero_add, List.all_eq_true] at h4
  have h5 := h4 (i : Int) ((ids_mem n _).2 ⟨i - 1, by omega, by omega⟩)
  rw [gP_C]
  rw [Bool.or_eq_true, decide_eq_true_eq] at h5
  rcases h5 with h5 | h5
  · omega
  · exact Option.isSome_iff_exists.1 h5
def zero6 : List Int := [0, 0, 0, 0, 0, 0]
theorem zero6_el (i : Nat) : HL.el zero6 i = 0 := by
  match i with
  | 0 => rfl
  | 1 => rfl
  | 2 => rfl
  | 3 => rfl
  | 4 => rfl
  | 5 => rfl
  | i + 6 => rfl
theorem kc_zero {x : Int} (hx : 1 ≤ x) : ∀ m, kc zero6 x m = 1
  | 0 => rfl
  | m + 1 => by
    show (if x ≤ HL.el zero6 (m + 2) then kc zero6 x m + 1 else kc zero6 x m) = 1
    rw [if_neg (by rw [zero6_el]; omega), kc_zero hx m]
theorem gP_lead (n c : Nat) (h1 : 1 ≤ n) (h5 : n ≤ 5) (hc : c ≤ 20) : Lead n (gP n c) ∧ (gP n c).last = (c : Int) + 1 ∧ Heard n (gP n c) (gP n c) zero6 zero6 ∧ (gP n c).commit = (gP n c).far (gP n c).last Pr.mt ∧ (gP n c).votes.length ≤ 900 ∧ (gP n c).round = 0 ∧ ((n = 1) → (gP n c).commit = (c : Int) + 1) ∧ (n ≠ 1 → (gP n c).commit = 0) := by
  obtain ⟨a1, a2, a3, a4, a5, a6, a7, a8, a9, a10, a11, a12, a13, a14⟩ := okG_all h1 (gP_ok n c h1 h5 hc)
  have B := gP_rb n h1 (by omega) c (by omega)
  have hl : (gP n c).last = (c : Int) + 1 := by rw [B.lastE, a4, a6]; omega
  have hL : Lead n (gP n c) := ⟨h1, h5, a1, a2, a3, a4, a5, a7, a8, by rw [hl, a6]; omega, by rw [a13]; exact Int.le_refl _⟩
  have hH : Heard n (gP n c) (gP n c) zero6 zero6 := ⟨rfl, fun i h2 hi => by
    obtain ⟨p, hp⟩ := gP_known n c h1 h5 hc i h2 hi
    refine ⟨p, hp, ?_⟩
    unfold pget at hp
    rw [Option.map_eq_some_iff] at hp
    obtain ⟨x, hx, rfl⟩ := hp
    have := a10 x (List.mem_of_find?_eq_some hx)
    rw [zero6_el]
    exact ⟨this.1, this.2.1⟩, fun i => by rw [zero6_el, hl]; omega, fun i => by rw [zero6_el, a13]; omega, rfl, rfl⟩
  have ht := hH.far_top hL (gP n c).last Pr.mt zero6 hH.mtB (fun i => (hH.al i).2)
  have hlo := hH.far_low hL (gP n c).last Pr.mt zero6 hH.mtB (fun i => (hH.al i).1) (by rw [hl]; omega)
  refine ⟨hL, hl, hH, ?_, a14, a13, fun e => by rw [a11, if_pos e], fun e => by rw [a11, if_neg e]⟩
  rw [a11]
  by_cases e : n = 1
  · rw [if_pos e]
    have := (hH.far_of hL (gP n c).last Pr.mt zero6 hH.mtB (gP n c).last (Int.le_refl _)).2 (by
      subst e
      show 1 / 2 < 1
      omega)
    rw [hl] at ht this ⊢
    omega
  · rw [if_neg e]
    have : ¬ 1 ≤ (gP n c).far (gP n c).last Pr.mt := fun h => by
      have := (hH.far_of hL (gP n c).last Pr.mt zero6 hH.mtB 1 (by rw [hl]; omega)).1 h
      rw [kc_zero (Int.le_refl _)] at this
      omega
    omega
/-- A row of ints as cells. -/
def icells (A : List Int) : List Value := A.map fun x => .int .i64 x
theorem icells_at {A : List Int} {k : Nat} (h : k < A.length) : (icells A)[k]? = some (.int .i64 (HL.el A k)) := by
  unfold icells
  rw [List.getElem?_map, HL.el_eq A k h]
  rfl
theorem icells_set (A : List Int) (k : Nat) (x : Int) : (icells A).set k (.int .i64 x) = icells (A.set k x) := by
  unfold icells
  rw [List.map_set]
theorem icells_len (A : List Int) : (icells A).length = A.length := List.length_map _
theorem and3 (n : Int) : bits .and .i64 n 3 = n % 4 := by
  have h255 : (BitVec.ofInt 64 3).toNat = 2 ^ 2 - 1 := by decide
  have key : (BitVec.ofInt 64 n &&& BitVec.ofInt 64 3).toNat = (n % ((2 ^ 64 : Nat) : Int)).toNat % 2 ^ 2 := by
    rw [BitVec.toNat_and, BitVec.toNat_ofInt, h255, Nat.and_two_pow_sub_one_eq_mod]
  show IntKind.i64.wrap ((BitVec.ofInt 64 n &&& BitVec.ofInt 64 3).toNat : Nat) = n % 4
  rw [key, IntKind.wrap_i64]
  omega
theorem and31 (n : Int) : bits .and .i64 n 31 = n % 32 := by
  have h255 : (BitVec.ofInt 64 31).toNat = 2 ^ 5 - 1 := by decide
  have key : (BitVec.ofInt 64 n &&& BitVec.ofInt 64 31).toNat = (n % ((2 ^ 64 : Nat) : Int)).toNat % 2 ^ 5 := by
    rw [BitVec.toNat_and, BitVec.toNat_ofInt, h255, Nat.and_two_pow_sub_one_eq_mod]
  show IntKind.i64.wrap ((BitVec.ofInt 64 n &&& BitVec.ofInt 64 31).toNat : Nat) = n % 32
  rw [key, IntKind.wrap_i64]
  omega
theorem and15 (n : Int) : bits .and .i64 n 15 = n % 16 := by
  have h255 : (BitVec.ofInt 64 15).toNat = 2 ^ 4 - 1 := by decide
  have key : (BitVec.ofInt 64 n &&& BitVec.ofInt 64 15).toNat = (n % ((2 ^ 64 : Nat) : Int)).toNat % 2 ^ 4 := by
    rw [BitVec.toNat_and, BitVec.toNat_ofInt, h255, Nat.and_two_pow_sub_one_eq_mod]
  show IntKind.i64.wrap ((BitVec.ofInt 64 n &&& BitVec.ofInt 64 15).toNat : Nat) = n % 16
  rw [key, IntKind.wrap_i64]
  omega
end RF
end Go.Proofs.YtaodldagmmephaaGreat
