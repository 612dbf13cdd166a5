/- arboretumlaw5.MetaNext: the walk. -/
import Derived.Test.YtpoiopjggmhnjaaDoorMAlive
namespace Go.Proofs.YtpoiopjggmhnjaaDoor
open Go.RowKit Go.Conc

theorem chosen_newest {r : Nat → Option Mt} {m : Mt} {p : Nat} (hp : p < 2) (hr : r p = some m) (ho : ∀ j x, j < 2 → j ≠ p → r j = some x → x.txn < m.txn) : chosen r 2 = some m := by
  show newer (newer none (r 0)) (r 1) = some m
  match p, hp with
  | 0, _ =>
    rw [hr]
    cases h1 : r 1 with
    | none => rfl
    | some x =>
      have := ho 1 x (by omega) (by omega) h1
      show (if m.txn < x.txn then some x else some m) = some m
      rw [if_neg (by omega)]
  | 1, _ =>
    rw [hr]
    cases h0 : r 0 with
    | none => rfl
    | some x =>
      have := ho 0 x (by omega) (by omega) h0
      show (if x.txn < m.txn then some m else some x) = some m
      rw [if_pos this]

/-- The i-th meta. -/
def mAt (t r i : Nat) : Mt := ⟨t + i, r + i, i, 3⟩
/-- A device behind k metas. -/
def NextI (t : Nat) (db base : Nat) (k : Nat) (F : Nat → Prop) (w : World) : Prop :=
  ∃ (nw : List ByteArray) (ws : List Wr) (r : Nat → Option Mt), Dv db base 2 true false 0 [page0, page0] nw ws F w ∧ nw.length = 2 ∧ ws.length = k ∧ (∀ j, j < 2 → PageIs j (nw.getD j default) (r j)) ∧ ∀ j x, j < 2 → r j = some x → x.txn < t + k

theorem next_keep {t db base k : Nat} {F S : Nat → Prop} {w w' : World} (h : NextI t db base k F w) (hF : Fr S w w') (hS : ∀ k, F k → ¬ S k) : NextI t db base k F w' := by
  obtain ⟨nw, ws, r, hD, h⟩ := h
  exact ⟨nw, ws, r, hD.keep hF hS, h⟩
theorem next_lt {t db base k : Nat} {F : Nat → Prop} {w : World} (h : NextI t db base k F w) : ∀ i, F i → i < w.heap.size := by
  obtain ⟨nw, ws, r, hD, h⟩ := h
  exact hD.lt

theorem next_write {t q db base k : Nat} {F : Nat → Prop} {w : World} (h : NextI t db base k F w) (ht : t ≤ 1099511627776) (hq : q ≤ 1048576) (hk : k ≤ 12) :
    Calls Tryd.prog 19 #[.pointer (some ⟨db, 0, none⟩), mtv (mAt t q k)] w fun e w' => e = .returned (.int .i64 0) ∧ ∃ F', NextI t db base (k + 1) F' w' ∧ Step F F' w w' ∧
      ∀ W, Below w'.heap.size w' W → Calls Tryd.prog 20 #[.pointer (some ⟨db, 0, none⟩)] W fun e w2 => e = .returned (.tuple #[mtv (mAt t q k), .int .i64 0]) ∧ Below W.heap.size W w2 := by
  obtain ⟨nw, ws, r, hD, hn, hw, hr, ho⟩ := h
  have hm : (mAt t q k).ok := Mt.ok_of (by simp only [mAt]; omega) (by simp only [mAt]; omega) (by simp only [mAt]; omega) (by simp only [mAt]; omega)
  refine (meta_write (mAt t q k) hm hD (by omega) (by omega) (by omega)).mono ?_
  rintro e w' ⟨he, F', hD', hS⟩
  have hp : (mAt t q k).txn % 2 < 2 := by omega
  have hpg : ∀ j, j < 2 → PageIs j ((nw.set ((mAt t q k).txn % 2) (metaP (mAt t q k))).getD j default) (if j = (mAt t q k).txn % 2 then some (mAt t q k) else r j) := fun j hj => by
    by_cases e : j = (mAt t q k).txn % 2
    · rw [if_pos e, e]
      have e2 : (nw.set ((mAt t q k).txn % 2) (metaP (mAt t q k))).getD ((mAt t q k).txn % 2) default = metaP (mAt t q k) := by
        rw [List.getD, List.getElem?_set_self (by omega)]
        rfl
      rw [e2]
      exact ⟨hm, rfl, rfl⟩
    · rw [if_neg e]
      have e2 : (nw.set ((mAt t q k).txn % 2) (metaP (mAt t q k))).getD j default = nw.getD j default := by
        rw [List.getD, List.getD, List.getElem?_set_ne (by omega)]
      rw [e2]
      exact hr j hj
  have hch : chosen (fun j => if j = (mAt t q k).txn % 2 then some (mAt t q k) else r j) 2 = some (mAt t q k) := chosen_newest hp (by simp) (fun j x hj hne hx => by
    rw [if_neg hne] at hx
    exact ho j x hj hx)
  refine ⟨he, F', ⟨_, _, fun j => if j = (mAt t q k).txn % 2 then some (mAt t q k) else r j, hD', by simpa using hn, by simp [hw], hpg, fun j x hj hx => ?_⟩, hS, fun W hb => ?_⟩
  · change (if j = (mAt t q k).txn % 2 then some (mAt t q k) else r j) = some x at hx
    by_cases e : j = (mAt t q k).txn % 2
    · rw [if_pos e] at hx
      injection hx with hx
      rw [← hx]
      show t + k < t + (k + 1)
      omega
    · rw [if_neg e] at hx
      have := ho j x hj hx
      omega
  · have e := meta_choose (fun j => if j = (mAt t q k).txn % 2 then some (mAt t q k) else r j) (hD'.keep (Fr.of_all (S := fun _ => False) hb) (fun _ _ h => h)) (by simp; omega) hpg
    rw [hch] at e
    exact e

set_option maxHeartbeats 2000000 in
set_option maxRecDepth 100000 in
theorem next_no (txn n root : Int) (w : World) (h : txn < 0 ∨ 1099511627776 < txn ∨ n < 1 ∨ 12 < n ∨ root < 2 ∨ 1048576 < root) : Calls Tryd.prog 4 #[.int .i64 txn, .int .i64 n, .int .i64 root] w fun e w' => e = .returned (.bool true) ∧ Below w.heap.size w w' := by
  have HA := Lib.hid (fun w => malive_true w)
  have h6 : txn < 0 ∨ (¬ txn < 0 ∧ 1099511627776 < txn) ∨ (¬ txn < 0 ∧ ¬ 1099511627776 < txn ∧ n < 1) ∨ (¬ txn < 0 ∧ ¬ 1099511627776 < txn ∧ ¬ n < 1 ∧ 12 < n) ∨ (¬ txn < 0 ∧ ¬ 1099511627776 < txn ∧ ¬ n < 1 ∧ ¬ 12 < n ∧ root < 2) ∨ (¬ txn < 0 ∧ ¬ 1099511627776 < txn ∧ ¬ n < 1 ∧ ¬ 12 < n ∧ ¬ root < 2 ∧ 1048576 < root) := by omega
  clear h
  rcases h6 with h1 | ⟨h1, h2⟩ | ⟨h1, h2, h3⟩ | ⟨h1, h2, h3, h4⟩ | ⟨h1, h2, h3, h4, h5⟩ | ⟨h1, h2, h3, h4, h5, h6⟩
  all_goals
    go_enter Tryd.func4, Tryd.ntmps4
    go_wp2_with fail
    refine (HA.out _).mono ?_
    rintro e w3 ⟨rfl, hb3⟩
    have HB := Lib.hid hb3
    clear hb3
    go_wp2
    go_ret
    exact ⟨rfl, HB.out⟩

set_option maxHeartbeats 4000000 in
set_option maxRecDepth 100000 in
theorem next_yes (t n q : Nat) (w : World) (ht : t ≤ 1099511627776) (hn1 : 1 ≤ n) (hn : n ≤ 12) (hq2 : 2 ≤ q) (hq : q ≤ 1048576) : Calls Tryd.prog 4 #[.int .i64 t, .int .i64 n, .int .i64 q] w fun e w' => e = .returned (.bool true) ∧ Below w.heap.size w w' := by
  have HA := Lib.hid (fun w => malive_true w)
  have HN := Lib.hid (dv_new 2 w (by omega) (by omega))
  have HPL := Lib.hid (fun k (hk : k ≤ 12) w => meta_place (t + k) w (by omega))
  have HNW := Lib.hid (fun (db base k : Nat) F w (hk : k ≤ 12) (h : NextI t db base k F w) => next_write (q := q) h ht hq hk)
  have g1 : ¬ ((t : Int) < 0) := by omega
  have g2 : ¬ (1099511627776 < (t : Int)) := by omega
  have g3 : ¬ ((n : Int) < 1) := by omega
  have g4 : ¬ (12 < (n : Int)) := by omega
  have g5 : ¬ ((q : Int) < 2) := by omega
  have g6 : ¬ (1048576 < (q : Int)) := by omega
  clear hn1 hq2
  go_enter Tryd.func4, Tryd.ntmps4
  go_wp2_with fail
  refine HN.out.mono ?_
  rintro e w1 ⟨rfl, hD1, hb1⟩
  have HG : Hid (Calls Tryd.prog 15 #[.pointer (some ⟨w.heap.size, 0, none⟩), .int .i64 2] w1 fun e w' => e = .returned (.int .i64 0) ∧ ∃ F', Dv w.heap.size w.heap.size 2 true false 0 [page0, page0] [page0, page0] [] F' w' ∧ Step (fun k => k = w.heap.size) F' w1 w') := Lib.hid (dv_grow 2 hD1 (by simp) (by omega) (by omega))
  have HB1 := Lib.hid (hD1.bsz)
  have HB := Lib.hid hb1
  clear hD1 hb1 HN
  go_wp2_with fail
  refine HG.out.mono ?_
  rintro e w2 ⟨rfl, F2, hD2, hS2⟩
  have hp0 : ∀ j, j < 2 → PageIs j (([page0, page0] : List ByteArray).getD j default) none := fun j hj => by
    match j, hj with
    | 0, _ => exact pageIs_shut page0_size page0_shut
    | 1, _ => exact pageIs_shut page0_size page0_shut
  have HC : Hid (Calls Tryd.prog 20 #[.pointer (some ⟨w.heap.size, 0, none⟩)] w2 fun e w' => e = .returned (.tuple #[.agg #[.int .i64 0, .int .i64 0, .int .i64 0, .int .i64 0], .int .i64 15]) ∧ Below w2.heap.size w2 w') := Lib.hid (meta_choose (fun _ => none) hD2 (by simp) hp0)
  have HI : Hid (NextI t w.heap.size w.heap.size 0 F2 w2) := Lib.hid ⟨_, _, fun _ => none, hD2, rfl, rfl, hp0, fun j x _ hx => by cases hx⟩
  have HS2 := Lib.hid hS2
  clear hD2 hS2 hp0 HG
  go_wp2_with fail
  refine HC.out.mono ?_
  rintro e w3 ⟨rfl, hb3⟩
  have HI3 : Hid (∀ a, NextI t w.heap.size w.heap.size 0 F2 (w3.alloc a)) := Lib.hid (fun a => next_keep HI.out ((Fr.of_all (S := fun _ => False) hb3).alloc a) (fun _ _ h => h))
  have HS3 : Hid (∀ a, Step (fun k => k = w.heap.size) F2 w1 (w3.alloc a)) := Lib.hid (fun a => HS2.out.trans ⟨((Fr.of_all (S := fun _ => False) hb3).alloc a).mono (fun _ _ h => h.elim), fun k h => .inl h⟩)
  clear hb3 HI HS2 HC
  go_wp2
  go_loopw [11] (fun i wr => ∃ (k : Nat) (F : Nat → Prop), k ≤ n ∧ i = .int .i64 k ∧ Hid (NextI t w.heap.size w.heap.size k F wr) ∧ Hid (Step (fun k => k = w.heap.size) F w1 wr)) (fun i _ => n - (intOf i).toNat)
  case atStart => exact ⟨0, F2, Nat.zero_le _, rfl, HI3.out _, HS3.out _⟩
  case round =>
    obtain ⟨k, F, hk, rfl, hI, hS⟩ := hrel
    by_cases hkn : k < n
    · have hmv : mtv (mAt t q k) = .agg #[.int .i64 ((t : Int) + k), .int .i64 ((q : Int) + k), .int .i64 k, .int .i64 3] := by
        simp only [mtv, mAt, Int.natCast_add]
        rfl
      have HCF := Lib.hid (fun i (h : i < 4) => MtB.fresh wr (mAt t q k) i h)
      have HW : Hid (Calls Tryd.prog 19 #[.pointer (some ⟨w.heap.size, 0, none⟩), .agg #[.int .i64 ((t : Int) + k), .int .i64 ((q : Int) + k), .int .i64 k, .int .i64 3]] (wr.alloc (.cells #[.int .i64 ((t : Int) + k), .int .i64 ((q : Int) + k), .int .i64 k, .int .i64 3] 23)) fun e w' => e = .returned (.int .i64 0) ∧ ∃ F', NextI t w.heap.size w.heap.size (k + 1) F' w' ∧ Step (fun k => k = w.heap.size) F' w1 w' ∧
          (∀ i, i < 4 → w'.cell? ⟨wr.heap.size, i, none⟩ = some (.int .i64 (HL.el (mAt t q k).l i : Nat))) ∧ wr.heap.size < w'.heap.size ∧
          ∀ W, Below w'.heap.size w' W → Calls Tryd.prog 20 #[.pointer (some ⟨w.heap.size, 0, none⟩)] W fun e w2 => e = .returned (.tuple #[.agg #[.int .i64 ((t : Int) + k), .int .i64 ((q : Int) + k), .int .i64 k, .int .i64 3], .int .i64 0]) ∧ Below W.heap.size W w2) := Lib.hid (by
        have hal := (Fr.refl (fun _ => False) wr).alloc (.cells #[.int .i64 ((t : Int) + k), .int .i64 ((q : Int) + k), .int .i64 k, .int .i64 3] 23)
        have e := HNW.out w.heap.size w.heap.size k F _ (by omega) (next_keep hI.out hal (fun _ _ h => h))
        rw [hmv] at e
        refine e.mono ?_
        rintro e w' ⟨he, F', h1, h2, h3⟩
        refine ⟨he, F', h1, (hS.out.trans ⟨hal.mono (fun _ _ h => h.elim), fun k h => .inl h⟩).trans h2, fun i hi => ?_, ?_, h3⟩
        · refine (h2.1.cell (p := ⟨wr.heap.size, i, none⟩) (by simp) (fun h => Nat.lt_irrefl _ (next_lt hI.out _ h))).trans ?_
          have e9 := (HCF.out i hi).1
          simp only [mAt, Int.natCast_add] at e9
          exact e9
        · have := h2.1.size
          simp at this
          omega)
      have HPK : Hid (∀ w, Calls Tryd.prog 9 #[.int .i64 ((t : Int) + k)] w fun e w' => e = .returned (.int .i64 ((t + k) % 2 : Nat)) ∧ w' = w) := Lib.hid (fun w => by
        have e := HPL.out k (by omega) w
        rw [Int.natCast_add] at e
        exact e)
      have hrem : Int.tmod ((t : Int) + k) 2 = ((t + k) % 2 : Nat) := by
        rw [← Int.natCast_add]
        exact Int.ofNat_tmod _ _
      have hpl : (((t + k : Nat) : Int)) = (t : Int) + k := Int.natCast_add _ _
      clear hmv HCF hI hS HPL HNW
      go_wp2_with fail
      refine HW.out.mono ?_
      rintro e w4 ⟨rfl, F4, hI4, hS4, hc4, hz4, hC4⟩
      have c0 : w4.cell? ⟨wr.heap.size, 0, none⟩ = some (.int .i64 ((t : Int) + k)) := (hc4 0 (by omega)).trans (by rw [← hpl]; rfl)
      have c1 : w4.cell? ⟨wr.heap.size, 1, none⟩ = some (.int .i64 ((q : Int) + k)) := (hc4 1 (by omega)).trans (by rw [← Int.natCast_add]; rfl)
      have c2 : w4.cell? ⟨wr.heap.size, 2, none⟩ = some (.int .i64 k) := hc4 2 (by omega)
      have c3 : w4.cell? ⟨wr.heap.size, 3, none⟩ = some (.int .i64 3) := hc4 3 (by omega)
      have HI4 := Lib.hid hI4
      have HS4 := Lib.hid hS4
      have HC4 := Lib.hid hC4
      clear hI4 hS4 hc4 hC4 HW
      go_wp2_with fail
      refine (HPK.out _).mono ?_
      rintro e w5 ⟨rfl, rfl⟩
      have HCC := Lib.hid (HC4.out w5 (Below.refl _ _))
      clear HC4 HPK
      go_wp2_with fail
      refine HCC.out.mono ?_
      rintro e w6 ⟨rfl, hb6⟩
      have d0 := (hb6.cell (p := ⟨wr.heap.size, 0, none⟩) hz4).trans c0
      have d1 := (hb6.cell (p := ⟨wr.heap.size, 1, none⟩) hz4).trans c1
      have d2 := (hb6.cell (p := ⟨wr.heap.size, 2, none⟩) hz4).trans c2
      have d3 := (hb6.cell (p := ⟨wr.heap.size, 3, none⟩) hz4).trans c3
      have hz6 : wr.heap.size < w6.heap.size := Nat.lt_of_lt_of_le hz4 hb6.size
      have HI6 : Hid (∀ a, NextI t w.heap.size w.heap.size (k + 1) F4 (w6.alloc a)) := Lib.hid (fun a => next_keep HI4.out ((Fr.of_all (S := fun _ => False) hb6).alloc a) (fun _ _ h => h))
      have HS6 : Hid (∀ a, Step (fun k => k = w.heap.size) F4 w1 (w6.alloc a)) := Lib.hid (fun a => HS4.out.trans ⟨((Fr.of_all (S := fun _ => False) hb6).alloc a).mono (fun _ _ h => h.elim), fun k h => .inl h⟩)
      clear hb6 HI4 HS4 HCC c0 c1 c2 c3
      go_wp2
      go_roundw
      case rel => exact ⟨k + 1, F4, by omega, by go_num, HI6.out _, HS6.out _⟩
      case measure => simp [intOf]; omega
    · obtain rfl : k = n := by omega
      go_wp2_with fail
      refine (HA.out _).mono ?_
      rintro e w3 ⟨rfl, hb3⟩
      have HBE : Hid (Below w.heap.size w w3) := Lib.hid ((HB.out.trans (hS.out.1.below HB1.out (fun i hi => by have : i = w.heap.size := hi; omega))).trans (hb3.mono (Nat.le_trans HB1.out hS.out.1.size)))
      clear hb3
      go_wp2
      go_ret
      exact ⟨rfl, HBE.out⟩

theorem metaNext_walk (txn n root : Int) (w : World) : Calls Tryd.prog 4 #[.int .i64 txn, .int .i64 n, .int .i64 root] w fun e w' => e = .returned (.bool true) ∧ Below w.heap.size w w' := by
  by_cases h : txn < 0 ∨ 1099511627776 < txn ∨ n < 1 ∨ 12 < n ∨ root < 2 ∨ 1048576 < root
  · exact next_no txn n root w h
  · obtain ⟨t, rfl⟩ := Int.eq_ofNat_of_zero_le (show 0 ≤ txn by omega)
    obtain ⟨k, rfl⟩ := Int.eq_ofNat_of_zero_le (show 0 ≤ n by omega)
    obtain ⟨q, rfl⟩ := Int.eq_ofNat_of_zero_le (show 0 ≤ root by omega)
    exact next_yes t k q w (by omega) (by omega) (by omega) (by omega) (by omega)
end Go.Proofs.YtpoiopjggmhnjaaDoor
