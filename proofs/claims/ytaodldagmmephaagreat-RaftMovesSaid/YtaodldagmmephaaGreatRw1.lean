/- raft: the law RaftMoves. -/
import Derived.Test.YtaodldagmmephaaGreatB3
import Derived.Test.YtaodldagmmephaaGreatB1
import Derived.Test.YtaodldagmmephaaGreatA0
namespace Go.Proofs.YtaodldagmmephaaGreat
open Go.RowKit Go.Maps
namespace RF
/-- The entries of the law. -/
def mvE (k : Nat) : En := ⟨(k : Int) + 1, 1 + (((k + 1) / 8 : Nat) : Int), 0, ⟨#[]⟩⟩
def mvL (n : Nat) : List En := (List.range n).map mvE
theorem mvL_len (n : Nat) : (mvL n).length = n := by simp [mvL]
theorem mvL_succ (n : Nat) : mvL (n + 1) = mvL n ++ [mvE n] := by simp [mvL, List.range_succ]
theorem mvL_el {n k : Nat} (h : k < n) : HL.el (mvL n) k = mvE k := by
  unfold HL.el mvL
  simp [List.getD, h]
theorem mvL_ok : ∀ n : Nat, followB 0 0 (mvL n) = true ∧ lastS 0 0 (mvL n) = (if n = 0 then (0, 0) else ((n : Int), 1 + ((n / 8 : Nat) : Int)))
  | 0 => ⟨rfl, rfl⟩
  | n + 1 => by
    obtain ⟨h1, h2⟩ := mvL_ok n
    rw [mvL_succ]
    constructor
    · refine (follow_snoc _ _ _ _).2 ⟨h1, ?_, ?_⟩
      · rw [h2]
        unfold mvE
        by_cases h : n = 0
        · rw [if_pos h]; subst h; rfl
        · rw [if_neg h]
      · rw [h2]
        unfold mvE
        by_cases h : n = 0
        · rw [if_pos h]; subst h; decide
        · rw [if_neg h]
          show 1 + ((n / 8 : Nat) : Int) ≤ 1 + (((n + 1) / 8 : Nat) : Int)
          have : n / 8 ≤ (n + 1) / 8 := Nat.div_le_div_right (Nat.le_succ n)
          omega
    · rw [lastS_snoc, if_neg (by omega)]
      unfold mvE
      simp
theorem valid_123 : CL.Valid [1, 2, 3] := (valid_iff _).1 (by decide)
theorem valid_23 : validB [2, 3] = true := by decide
theorem mv_new (n c : Nat) (hn : n ≤ 20) : newR 1 4 0 c 0 0 [1, 2, 3] (mvL n) := by
  obtain ⟨h1, h2⟩ := mvL_ok n
  refine ⟨?_, ⟨by omega, by omega⟩, by omega, by omega, by omega, by omega, valid_123, ?_⟩
  · unfold newOk
    simp only [Bool.and_eq_true, decide_eq_true_eq]
    exact ⟨by omega, by omega, h1⟩
  · rw [h2]
    split
    · decide
    · show 1 + ((n / 8 : Nat) : Int) ≤ 4
      omega
/-- The core of the law. -/
def mvS (n c : Nat) : RS := new0 1 4 0 c 0 0 [1, 2, 3] (mvL n)
theorem mv_last (n c : Nat) : (mvS n c).last = (n : Int) := by
  show (lastS 0 0 (mvL n)).1 = _
  rw [(mvL_ok n).2]
  split
  · rename_i h; subst h; rfl
  · rfl
theorem mv_commit (n c : Nat) (h : c ≤ n) : (mvS n c).commit = (c : Int) := by
  show min (max (c : Int) 0) (lastS 0 0 (mvL n)).1 = _
  have := mv_last n c
  have h2 : (lastS 0 0 (mvL n)).1 = (n : Int) := this
  rw [h2]
  omega
theorem mv_at (n c : Nat) (ix : Int) : atS (mvS n c).b (mvS n c).l ix = if 1 ≤ ix ∧ ix ≤ (n : Int) then some (mvE (ix - 1).toNat) else none := by
  show atS 0 (mvL n) ix = _
  unfold atS
  rw [mvL_len]
  by_cases h : 1 ≤ ix ∧ ix ≤ (n : Int)
  · rw [if_neg (by omega), if_pos h, mvL_el (by omega)]
    congr 2
    omega
  · rw [if_pos (by omega), if_neg h]
theorem mv_rb (n c : Nat) (hn : n ≤ 20) (hc : c ≤ n) : RB 100 100 (mvS n c) := by
  have hN := mv_new n c hn
  have hl := mv_last n c
  have hcm := mv_commit n c hc
  refine ⟨hN.2.1, hN.1, by rw [hl]; omega, by omega, by show (mvL n).length ≤ 100; rw [mvL_len]; omega, by omega, fun e he => ?_, valid_123, (fun x hx => absurd hx List.not_mem_nil), List.nodup_nil, ⟨by show (0 : Int) ≤ 4; omega, by show (4 : Int) ≤ _; omega⟩, ⟨by show (0 : Int) ≤ 0; omega, by show (0 : Int) ≤ _; omega⟩, by rw [hcm]; omega, hN.2.2.2.2.2.2.2⟩
  obtain ⟨k, _, rfl⟩ := List.mem_map.1 he
  exact Nat.zero_le _
theorem mv_ok (n c : Nat) (ix tm : Int) (hc : c ≤ n) (h0 : 0 ≤ tm) : (mvS n c).restOk ix tm [2, 3] ↔ (c : Int) < ix ∧ tm ≤ 4 := by
  unfold RS.restOk
  rw [mv_commit n c hc]
  constructor
  · rintro ⟨_, h1, _, h2, _⟩; exact ⟨h1, h2⟩
  · rintro ⟨h1, h2⟩; exact ⟨by show (0 : Int) ≠ 2; omega, h1, h0, h2, valid_23⟩
theorem no_conf {l : List En} (h : ∀ e ∈ l, e.kd ≠ 2) (tq : Int) : lmemV l tq = ([], 0) := by
  unfold lmemV
  have : lmem l tq = none := by
    unfold lmem
    rw [List.findSome?_eq_none_iff]
    intro e he
    unfold memOf
    rw [if_neg (fun hh => h e (List.mem_reverse.1 he) hh.1)]
  rw [this]
  rfl
theorem mvL_kd (n : Nat) : ∀ e ∈ mvL n, e.kd ≠ 2 := fun e he => by
  obtain ⟨k, _, rfl⟩ := List.mem_map.1 he
  show (0 : Int) ≠ 2
  omega
/-- Which entries stay. -/
def mvT (n : Nat) (ix tm : Int) : Int := if ix ≤ (n : Int) ∧ tm = 1 + ix.tdiv 8 then n else ix
theorem mv_rest (n c : Nat) (ix tm : Int) (hn : n ≤ 20) (hc : c ≤ n) (h0 : 0 ≤ tm) (hok : (c : Int) < ix ∧ tm ≤ 4) :
    ((mvS n c).rest ix tm [2, 3]).out.hd = true ∧ ((mvS n c).rest ix tm [2, 3]).out.fr = ix + 1 ∧ ((mvS n c).rest ix tm [2, 3]).b = ix ∧ ((mvS n c).rest ix tm [2, 3]).commit = ix ∧ (lastS ((mvS n c).rest ix tm [2, 3]).b ((mvS n c).rest ix tm [2, 3]).t ((mvS n c).rest ix tm [2, 3]).l).1 = mvT n ix tm ∧ ((mvS n c).rest ix tm [2, 3]).all = [2, 3] := by
  have hR : (mvS n c).rest ix tm [2, 3] = { (mvS n c).rest1 ix tm with snap := [2, 3], commit := ix, out := { ((mvS n c).rest1 ix tm).out with hd := true, fr := ix + 1 } } := by
    have hf : ((mvS n c).rest1 ix tm).out.fr = 0 := by
      unfold RS.rest1
      split
      · split <;> rfl
      · rfl
    unfold RS.rest RS.changed
    rw [if_pos (.inl hf)]
  have hat := mv_at n c ix
  have hB := mv_rb n c hn hc
  have hL : (mvS n c).rest1 ix tm = (if ix ≤ (n : Int) ∧ tm = 1 + ix.tdiv 8 then { mvS n c with b := ix, t := tm, l := (mvL n).drop ix.toNat } else { mvS n c with b := ix, t := tm, l := [] }) := by
    unfold RS.rest1
    have htd : ix.tdiv 8 = ((((ix - 1).toNat + 1) / 8 : Nat) : Int) := by
      rw [Int.tdiv_eq_ediv_of_nonneg (by omega)]
      omega
    by_cases h1 : ix ≤ (n : Int)
    · have hat1 := hat
      rw [if_pos ⟨by omega, h1⟩] at hat1
      rw [hat1]
      by_cases h2 : tm = 1 + ix.tdiv 8
      · rw [if_pos (show (some (mvE (ix - 1).toNat)).map (·.tm) = some tm by show some (mvE (ix - 1).toNat).tm = some tm; rw [h2, htd]; rfl), if_pos ⟨h1, h2⟩]
        have hcs : compS (mvS n c).b (mvS n c).t (mvS n c).l ix = some tm := by
          unfold compS termS
          rw [if_neg (by show ix ≠ 0; omega), hat, if_pos ⟨by omega, h1⟩]
          have h3 : ix ≤ (lastS (mvS n c).b (mvS n c).t (mvS n c).l).1 := by
            have := mv_last n c
            have h4 : (lastS (mvS n c).b (mvS n c).t (mvS n c).l).1 = (n : Int) := this
            rw [h4]; exact h1
          have h5 : (mvE (ix - 1).toNat).tm = tm := by rw [h2, htd]; rfl
          generalize mvE (ix - 1).toNat = y at *
          simp [h3, h5]
        rw [hcs]
        show ({ mvS n c with b := ix, t := tm, l := (mvL n).drop (ix - 0).toNat } : RS) = _
        rw [Int.sub_zero]
      · rw [if_neg (fun h => by
          have h : some (mvE (ix - 1).toNat).tm = some tm := h
          injection h with h
          exact h2 (by rw [← h, htd]; rfl)), if_neg (fun h => h2 h.2)]
    · have hat1 := hat
      rw [if_neg (fun h => h1 h.2)] at hat1
      rw [hat1, if_neg (fun h => by cases h), if_neg (fun h => h1 h.1)]
  have hfo := hB.rest (ix := ix) (tm := tm) (ms := [2, 3]) ((mv_ok n c ix tm hc h0).2 hok) (by omega)
  rw [hR]
  refine ⟨rfl, rfl, ?_, rfl, ?_, ?_⟩
  · show ((mvS n c).rest1 ix tm).b = ix
    rw [hL]
    split <;> rfl
  · show (lastS ((mvS n c).rest1 ix tm).b ((mvS n c).rest1 ix tm).t ((mvS n c).rest1 ix tm).l).1 = _
    unfold mvT
    rw [hL]
    by_cases h1 : ix ≤ (n : Int) ∧ tm = 1 + ix.tdiv 8
    · rw [if_pos h1, if_pos h1]
      have hd : followB ix tm ((mvL n).drop ix.toNat) = true := by
        have e1 := (mvL_ok n).1
        have e2 := (follow_append ((mvL n).take ix.toNat) ((mvL n).drop ix.toNat) 0 0).1 (by rw [List.take_append_drop]; exact e1)
        have e3 : termS 0 0 (mvL n) (0 + (ix.toNat : Int)) = some tm := by
          unfold termS
          rw [if_neg (by omega)]
          have h5 := hat
          have h6 : atS 0 (mvL n) ix = _ := h5
          rw [show (0 : Int) + (ix.toNat : Int) = ix by omega, h6, if_pos ⟨by omega, h1.1⟩]
          show some (mvE (ix - 1).toNat).tm = some tm
          congr 1
          rw [h1.2, Int.tdiv_eq_ediv_of_nonneg (by omega)]
          show 1 + ((((ix - 1).toNat + 1) / 8 : Nat) : Int) = _
          omega
        have e4 := take_last ix.toNat (by rw [mvL_len]; omega) e1 e3
        rw [e4] at e2
        have := e2.2
        rw [show (0 : Int) + (ix.toNat : Int) = ix by omega] at this
        exact this
      show (lastS ix tm ((mvL n).drop ix.toNat)).1 = _
      rw [follow_last _ _ _ hd, List.length_drop, mvL_len]
      omega
    · rw [if_neg h1, if_neg h1]
      rfl
  · unfold RS.all RS.mem
    rw [if_neg]
    rw [no_conf]
    · show ¬ (0 : Int) < 0
      omega
    · intro e he
      have he : e ∈ ((mvS n c).rest1 ix tm).l := he
      rw [hL] at he
      split at he
      · exact mvL_kd n e (List.mem_of_mem_drop he)
      · exact absurd he List.not_mem_nil
end RF
end Go.Proofs.YtaodldagmmephaaGreat
