/- pager: Read (of what was made, of what is gone, of what is out), Own, Pages. -/
import Derived.Test.YtlocadmiomglaaaGreatDoorGMakeW
import Derived.Laws.ResultCell
namespace Go.Proofs.YtlocadmiomglaaaGreatDoor
open Go.RowKit Go.Maps Go.Conc

section
variable {pb base : Nat} {s : PgS} {U : Nat → Prop} {w w' : World}

/-- All that was made are pages. -/
def AllPg (A : List (Int × Value)) : Prop := ∀ x ∈ A, ∃ k n b, x.2 = pgv k n b

theorem step_below {B : Nat} (hb : Below B w w') (hB : B = w.heap.size) : Fr (fun _ => False) w w' := Fr.of_all (by rw [← hB]; exact hb)

set_option maxHeartbeats 1000000 in
set_option maxRecDepth 100000 in
theorem pg_pages (h : Pg pb base s U w) : Calls Tryz.prog 14 #[.pointer (some ⟨pb, 0, none⟩)] w fun e w' => e = .returned (.int .i64 s.pages) ∧ w' = w := by
  have c3 := h.cells.c3
  have HNO := Lib.hid (pg_none h.cells)
  clear h
  go_enter Tryz.func14, Tryz.ntmps14
  go_wp2_with fail
  refine HNO.out.mono ?_
  rintro e w1 ⟨rfl, rfl⟩
  go_wp2
  go_ret
  exact ⟨rfl, rfl⟩

set_option maxHeartbeats 1000000 in
set_option maxRecDepth 100000 in
theorem pg_own (id : Int) (h : Pg pb base s U w) (hA : AllPg s.A) (hid : (Lit.int .i64 id).wf = true) : Calls Tryz.prog 61 #[.pointer (some ⟨pb, 0, none⟩), .int .i64 id] w fun e w' => e = .returned (.bool (decide (id ∈ s.A.map (·.1)))) ∧ Below w.heap.size w w' := by
  have c5 := h.cells.c5
  have HNO := Lib.hid (pg_none h.cells)
  have hb : ∀ X, Below w.heap.size w (w.alloc X) := fun X => (Below.refl _ w).alloc (Nat.le_refl _) _
  have HB := Lib.hid hb
  rcases made_look h id hid with ⟨v, hv, hlk⟩ | ⟨hno, hlk⟩
  · obtain ⟨k, n, b, hx⟩ := hA _ hv
    have hx : v = pgv k n b := hx
    subst hx
    have hm : decide (id ∈ s.A.map (·.1)) = true := decide_eq_true (List.mem_map.2 ⟨_, hv, rfl⟩)
    rw [hm]
    unfold pgv at hlk
    clear h hv hm hA hb
    go_enter Tryz.func61, Tryz.ntmps61
    go_wp2_with fail
    refine HNO.out.mono ?_
    rintro e w1 ⟨rfl, rfl⟩
    go_wp2
    go_ret
    exact ⟨rfl, HB.out _⟩
  · rw [decide_eq_false hno]
    clear h hno hA hb
    go_enter Tryz.func61, Tryz.ntmps61
    go_wp2_with fail
    refine HNO.out.mono ?_
    rintro e w1 ⟨rfl, rfl⟩
    go_wp2
    go_ret
    exact ⟨rfl, HB.out _⟩

set_option maxHeartbeats 2000000 in
set_option maxRecDepth 100000 in
/-- A page that was made here is read as it was made. -/
theorem pg_read_made (id k n : Int) (b : ByteArray) (h : Pg pb base s U w) (hid : (Lit.int .i64 id).wf = true) (h2 : 2 ≤ id) (hp : id < (s.pages : Int)) (hm : id ∈ s.A.map (·.1)) (hv : ∀ v, (id, v) ∈ s.A → v = pgv k n b) :
    Calls Tryz.prog 112 #[.pointer (some ⟨pb, 0, none⟩), .int .i64 id] w fun e w' => e = .returned (.tuple #[pgv k n b, .int .i64 0]) ∧ Below w.heap.size w w' := by
  have hal : Below w.heap.size w (w.alloc (.cells #[.int .i64 0, .int .i64 0, .string ByteArray.empty] 67)) := (Below.refl _ w).alloc (Nat.le_refl _) _
  have hP := h.below hal
  have c5 := hP.cells.c5
  have c3 := hP.cells.c3
  have HNO := Lib.hid (pg_none hP.cells)
  have g1 : ¬ id < 2 := by omega
  have g2 : ¬ ((s.pages : Int) ≤ id) := by omega
  have HAL := Lib.hid hal
  rcases made_look hP id hid with ⟨v, hv', hlk⟩ | ⟨hno, hlk⟩
  · have hx := hv v hv'
    subst hx
    unfold pgv at hlk
    clear h hv hv' hP hal hm h2 hp
    go_enter Tryz.func112, Tryz.ntmps112
    go_wp2_with fail
    refine HNO.out.mono ?_
    rintro e w1 ⟨rfl, hw1⟩
    subst hw1
    go_wp2
    (try simp only [Exit.inBlock, Exit.then])
    refine bodyPost_ret (v := .tuple #[pgv k n b, .int .i64 0]) ?_ rfl ⟨rfl, ?_⟩
    · rw [results_cell_tmp rfl]
      unfold pgv
      go_simp
    · exact ((Below.refl _ w).alloc (Nat.le_refl _) _).alloc (by simp) _
  · exact absurd hm hno

set_option maxHeartbeats 2000000 in
set_option maxRecDepth 100000 in
/-- What was dropped is read no more. -/
theorem pg_read_gone (id : Int) (h : Pg pb base s U w) (hid : (Lit.int .i64 id).wf = true) (h2 : 2 ≤ id) (hp : id < (s.pages : Int)) (hm : id ∉ s.A.map (·.1)) (hg : id ∈ s.D ∨ id ∈ s.W) :
    Calls Tryz.prog 112 #[.pointer (some ⟨pb, 0, none⟩), .int .i64 id] w fun e w' => e = .returned (.tuple #[pgv 0 0 ByteArray.empty, .int .i64 7]) ∧ Below w.heap.size w w' := by
  have hal : Below w.heap.size w (w.alloc (.cells #[.int .i64 0, .int .i64 0, .string ByteArray.empty] 67)) := (Below.refl _ w).alloc (Nat.le_refl _) _
  have hal1 := hal.alloc (by simp) (.cells #[.int .i64 0, .int .i64 0, .string ByteArray.empty] 67)
  have hal2 := hal1.alloc (by simp; omega) (.cells #[] 151)
  have hP := h.below hal
  have hP1 := h.below hal1
  have hP2 := h.below hal2
  have c5 := hP.cells.c5
  have c3 := hP.cells.c3
  have c6 := hP1.cells.c6
  have c7 := hP2.cells.c7
  have HNO := Lib.hid (pg_none hP.cells)
  have g1 : ¬ id < 2 := by omega
  have g2 : ¬ ((s.pages : Int) ≤ id) := by omega
  have hld := unit_look hP1.drp id hid
  have hlw := unit_look hP2.was id hid
  have hor : (decide (id ∈ s.D) || decide (id ∈ s.W)) = true := by simpa using hg
  have HB := Lib.hid (fun X => hal2.alloc (by simp; omega) X)
  rcases made_look hP id hid with ⟨v, hv', hlk⟩ | ⟨_, hlk⟩
  · exact absurd (List.mem_map.2 ⟨_, hv', rfl⟩) hm
  · have hcase : decide (id ∈ s.D) = true ∨ (decide (id ∈ s.D) = false ∧ decide (id ∈ s.W) = true) := by
      cases h1 : decide (id ∈ s.D)
      · rw [h1] at hor
        exact .inr ⟨rfl, by simpa using hor⟩
      · exact .inl rfl
    clear h hP hP1 hP2 hal hal1 hal2 hm h2 hp hg hor
    rcases hcase with h1 | ⟨h1, h2⟩
    · rw [h1] at hld
      generalize decide (id ∈ s.W) = bw at *
      clear h1
      go_enter Tryz.func112, Tryz.ntmps112
      go_wp2_with fail
      refine HNO.out.mono ?_
      rintro e w1 ⟨rfl, hw1⟩
      subst hw1
      go_wp2
      (try simp only [Exit.inBlock, Exit.then])
      refine bodyPost_ret (v := .tuple #[pgv 0 0 ByteArray.empty, .int .i64 7]) ?_ rfl ⟨rfl, ?_⟩
      · rw [results_cell_tmp rfl]
        unfold pgv
        go_simp
        rfl
      · exact HB.out _
    · rw [h1] at hld
      rw [h2] at hlw
      clear h1 h2
      go_enter Tryz.func112, Tryz.ntmps112
      go_wp2_with fail
      refine HNO.out.mono ?_
      rintro e w1 ⟨rfl, hw1⟩
      subst hw1
      go_wp2
      (try simp only [Exit.inBlock, Exit.then])
      refine bodyPost_ret (v := .tuple #[pgv 0 0 ByteArray.empty, .int .i64 7]) ?_ rfl ⟨rfl, ?_⟩
      · rw [results_cell_tmp rfl]
        unfold pgv
        go_simp
        rfl
      · exact HB.out _
end
end Go.Proofs.YtlocadmiomglaaaGreatDoor
