/- arboretumlaw7: a list of steps as an argument; in, Light. -/
import Derived.Test.YtoagbcbkaloacaaGreatDoorGUndoL
namespace Go.Proofs.YtoagbcbkaloacaaGreatDoor
open Go.RowKit Go.Maps Go.Conc

/-- A step. -/
structure OpV where
  k : Int
  n : Int
  pk : Int
  pn : Int
  pb : ByteArray
instance : Inhabited OpV := ⟨⟨0, 0, 0, 0, ByteArray.empty⟩⟩
def ocells (x : OpV) : List Value := [.int .i64 x.k, .int .i64 x.n, .int .i64 x.pk, .int .i64 x.pn, .string x.pb]
theorem ocells_length (x : OpV) : (ocells x).length = 5 := rfl
def opAt (zs : List OpV) (i : Nat) : OpV := zs.getD i default

theorem op_cells {w : World} {B n : Nat} {p : Option Addr} {zs : List OpV} (h : RdG ocells w B p n zs) (i : Nat) (hi : i < n) : ∃ b o, p = some ⟨b, o, none⟩ ∧ b < B ∧ w.cell? ⟨b, o + i * 5, none⟩ = some (.int .i64 (opAt zs i).k) ∧ w.cell? ⟨b, o + i * 5 + 1, none⟩ = some (.int .i64 (opAt zs i).n) ∧ w.cell? ⟨b, o + i * 5 + 2, none⟩ = some (.int .i64 (opAt zs i).pk) ∧ w.cell? ⟨b, o + i * 5 + 3, none⟩ = some (.int .i64 (opAt zs i).pn) ∧ w.cell? ⟨b, o + i * 5 + 4, none⟩ = some (.string (opAt zs i).pb) := by
  obtain ⟨b, o, e, hb, hc⟩ := h.2 (by omega)
  have hl := h.1
  have r : ∀ c v, c < 5 → (ocells (opAt zs i))[c]? = some v → w.cell? ⟨b, o + i * 5 + c, none⟩ = some v := fun c v hc5 hv => by
    have e1 := rowOf_at ocells ocells_length zs i c (by omega) hc5
    have e2 := hc (i * 5 + c) v (by rw [e1]; exact hv)
    rw [← Nat.add_assoc] at e2
    exact e2
  exact ⟨b, o, e, hb, r 0 _ (by omega) rfl, r 1 _ (by omega) rfl, r 2 _ (by omega) rfl, r 3 _ (by omega) rfl, r 4 _ (by omega) rfl⟩

set_option maxHeartbeats 1000000 in
set_option maxRecDepth 100000 in
theorem in_any (p : Option Addr) (n c B : Nat) (zs : List Int) (x : Int) (w : World) (h : RdI w B p n zs) (hn : n ≤ 1000000) :
    Calls Tryz.prog 15 #[.slice p n c, .int .i64 x] w fun e w' => e = .returned (.bool (decide (x ∈ zs))) ∧ w' = w := by
  have H := Lib.hid h
  have HL0 := Lib.hid h.1
  clear h
  go_enter Tryz.func15, Tryz.ntmps15
  go_wp2
  go_loopw [5] (fun iv wr => ∃ k : Nat, k ≤ n ∧ iv = .int .i64 k ∧ wr = w ∧ Hid (∀ j, j < k → HL.el zs j ≠ x)) (fun iv _ => n - (intOf iv).toNat)
  case atStart => exact ⟨0, Nat.zero_le _, rfl, rfl, Lib.hid (fun j hj => absurd hj (Nat.not_lt_zero j))⟩
  case round =>
    obtain ⟨k, hk, rfl, rfl, hno⟩ := hrel
    by_cases hlt : k < n
    · obtain ⟨b, o, e, _, hc⟩ := H.out.2 (by omega)
      have hcell := hc k hlt
      subst e
      clear hc
      by_cases hx : HL.el zs k = x
      · have hb : (HL.el zs k == x) = true := by rw [beq_iff_eq]; exact hx
        have HM : Hid (decide (x ∈ zs) = true) := Lib.hid (decide_eq_true (by rw [← hx]; exact HL.el_mem zs k (by rw [HL0.out]; exact hlt)))
        clear hx
        generalize HL.el zs k = y at *
        go_wp2
        go_ret
        exact ⟨by rw [HM.out]; rfl, rfl⟩
      · have hb : (HL.el zs k == x) = false := by rw [beq_eq_false_iff_ne]; exact hx
        have HNO : Hid (∀ j, j < k + 1 → HL.el zs j ≠ x) := Lib.hid (fun j hj => by
          rcases Nat.lt_or_ge j k with h1 | h1
          · exact hno.out j h1
          · obtain rfl : j = k := by omega
            exact hx)
        clear hx
        generalize HL.el zs k = y at *
        go_wp2
        go_roundw
        case rel => exact ⟨k + 1, by omega, by go_num, trivial, HNO⟩
        case measure => simp [intOf]; omega
    · obtain rfl : k = n := by omega
      have HM : Hid (decide (x ∈ zs) = false) := Lib.hid (decide_eq_false (fun hm => by
        obtain ⟨j, hj, e⟩ := List.getElem_of_mem hm
        refine hno.out j (by rw [HL0.out] at hj; exact hj) ?_
        have := HL.el_eq zs j hj
        rw [List.getElem?_eq_getElem hj] at this
        injection this with this
        rw [← this, e]))
      go_wp2
      go_ret
      exact ⟨by rw [HM.out]; rfl, rfl⟩

set_option maxHeartbeats 1000000 in
set_option maxRecDepth 100000 in
theorem light_any (p : Option Addr) (n c B : Nat) (zs : List OpV) (w : World) (h : RdG ocells w B p n zs) (hs : ∀ i, i < n → (opAt zs i).pb.size ≤ 9223372036854775807) :
    Calls Tryz.prog 14 #[.slice p n c] w fun e w' => ∃ b, e = .returned (.bool b) ∧ w' = w ∧ (b = true ↔ n ≤ 150 ∧ ∀ i, i < n → (opAt zs i).pb.size ≤ 300) := by
  have H := Lib.hid h
  have HS := Lib.hid hs
  clear h hs
  go_enter Tryz.func14, Tryz.ntmps14
  go_wp2
  go_loopw [3] (fun iv wr => ∃ k : Nat, k ≤ n ∧ k ≤ 300 ∧ iv = .int .i64 k ∧ wr = w ∧ Hid (∀ j, j < k → (opAt zs j).pb.size ≤ 300)) (fun iv _ => 300 - (intOf iv).toNat)
  case atStart => exact ⟨0, Nat.zero_le _, Nat.zero_le _, rfl, rfl, Lib.hid (fun j hj => absurd hj (Nat.not_lt_zero j))⟩
  case round =>
    obtain ⟨k, hk, hk3, rfl, rfl, hall⟩ := hrel
    by_cases hlt : k < n ∧ k < 300
    · obtain ⟨h1, h2⟩ := hlt
      obtain ⟨b, o, e, _, c0, c1, c2, c3, c4⟩ := op_cells H.out k h1
      subst e
      have hss := HS.out k h1
      by_cases hx : 300 < (opAt zs k).pb.size
      · have HNC : Hid (¬ (n ≤ 150 ∧ ∀ i, i < n → (opAt zs i).pb.size ≤ 300)) := Lib.hid (fun h => by
          have := h.2 k h1
          omega)
        generalize (opAt zs k).pb = s at *
        clear c0 c1 c2 c3
        go_wp2
        go_ret
        exact ⟨false, rfl, rfl, (fun e => by cases e), (fun h => absurd h HNC.out)⟩
      · have HNO : Hid (∀ j, j < k + 1 → (opAt zs j).pb.size ≤ 300) := Lib.hid (fun j hj => by
          rcases Nat.lt_or_ge j k with h1 | h1
          · exact hall.out j h1
          · obtain rfl : j = k := by omega
            omega)
        generalize (opAt zs k).pb = s at *
        clear c0 c1 c2 c3
        go_wp2
        go_roundw
        case rel => exact ⟨k + 1, by omega, by omega, by go_num, trivial, HNO⟩
        case measure => simp [intOf]; omega
    · have hcase : (k < n ∧ ¬ k < 300) ∨ ¬ k < n := by omega
      have HE : Hid (decide (n ≤ 150) = true → n ≤ 150 ∧ ∀ i, i < n → (opAt zs i).pb.size ≤ 300) := Lib.hid (fun hd => by
        have h1 : n ≤ 150 := by simpa using hd
        exact ⟨h1, fun i hi => hall.out i (by omega)⟩)
      clear hlt
      rcases hcase with ⟨h1, h2⟩ | h1
      all_goals
        go_wp2
        go_ret
        refine ⟨decide ((n : Int) ≤ 150), rfl, rfl, fun hd => HE.out ?_, fun h => ?_⟩
        · have h9 : (n : Int) ≤ 150 := by simpa using hd
          simp only [decide_eq_true_eq]
          omega
        · have := h.1
          simp only [decide_eq_true_eq]
          omega
end Go.Proofs.YtoagbcbkaloacaaGreatDoor
