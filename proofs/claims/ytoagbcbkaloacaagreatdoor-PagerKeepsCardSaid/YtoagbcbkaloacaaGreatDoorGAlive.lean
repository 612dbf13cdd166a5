/- arboretumlaw7.alive is true. -/
import Derived.Test.YtoagbcbkaloacaaGreatDoorGFullL
namespace Go.Proofs.YtoagbcbkaloacaaGreatDoor
open Go.RowKit Go.Maps Go.Conc

theorem Pg.bel {pb base : Nat} {s : PgS} {U U' : Nat → Prop} {w0 w w' : World} (h : Pg pb base s U w) (hS : Step U U' w w') (hB : Below base w0 w) : Below base w0 w' :=
  hB.trans (hS.1.below (by obtain ⟨Fs, h, _⟩ := h; exact h.bsz) h.ge)

/-- A pager of pages 2 .. i-1. -/
def FullI (pb base : Nat) (m i : Nat) (A : List (Int × Value)) (w0 w : World) : Prop := ∃ s U, Pg pb base s U w ∧ Full s m i ∧ s.A = A ∧ s.W = [] ∧ Below base w0 w

theorem full_new (m : Nat) (w0 w : World) (e : Ending) (h : BaseR m 2 w0 e w) : ∃ db rb fb rf, e = .returned (.tuple #[.pointer (some ⟨db, 0, none⟩), .pointer (some ⟨rb, 0, none⟩), .pointer (some ⟨fb, 0, none⟩), .pointer (some ⟨rf, 0, none⟩), .bool true]) ∧
    Calls Tryz.prog 9 #[.pointer (some ⟨db, 0, none⟩), .pointer (some ⟨fb, 0, none⟩), .int .i64 2, .int .i64 1] w fun e w' => ∃ pb, e = .returned (.tuple #[.pointer (some ⟨pb, 0, none⟩), .int .i64 0]) ∧ FullI pb w0.heap.size m 2 [] w0 w' := by
  obtain ⟨db, rb, fb, rf, Fd, Ff, rfl, hD, hF, hap, hdb, hfb, hb⟩ := h
  refine ⟨db, rb, fb, rf, rfl, ?_⟩
  refine (pg_new (base := w0.heap.size) 2 1 hD hF hap (fun k hk => Nat.le_trans hdb (hD.ge k hk)) (fun k hk => Nat.le_trans hfb (hF.ge k hk)) hb.size (by omega) (by simp) (by omega) (fun x hx => by cases hx) (by simp)).mono ?_
  rintro e w' ⟨pb, bm, bd, bw, sb, sbase, U, he, hP, hU, hb', hpb⟩
  exact ⟨pb, he, _, U, hP, Full.new, rfl, rfl, hb.trans (hb'.mono hb.size)⟩

theorem full_make {pb base m i : Nat} {A : List (Int × Value)} {w0 w : World} (k n : Int) (b : ByteArray) (h : FullI pb base m i A w0 w) (hi : i < m) (hm : m ≤ 3000) (hc : sealCode (i : Int) n k b = 0) (hb : b.size ≤ 1000000) :
    Calls Tryz.prog 10 #[.pointer (some ⟨pb, 0, none⟩), .agg #[.int .i64 k, .int .i64 n, .string b]] w fun e w' => e = .returned (.tuple #[.int .i64 i, .int .i64 0]) ∧ FullI pb base m (i + 1) (((i : Int), pgv k n b) :: A) w0 w' := by
  obtain ⟨s, U, hP, hF, hA, hW, hB⟩ := h
  have hnm := hF.nm
  refine (pg_make k n b hP (by rw [hF.nw, hF.most]; omega) (by rw [hF.most]; omega) (by rw [hF.pages, hF.nw]; exact Nat.le_refl _) (by rw [hF.next]; exact int_wf (by omega) (by omega)) hb (by omega)).mono ?_
  rintro e w' ⟨s', U', hM, hP', hS⟩
  obtain ⟨he, hF', hA', hW'⟩ := hF.make hi hc hM
  exact ⟨he, s', U', hP', hF', by rw [hA', hA], by rw [hW', hW]; rfl, hP.bel hS hB⟩

set_option maxHeartbeats 4000000 in
set_option maxRecDepth 100000 in
theorem galive_true (w : World) : Calls Tryz.prog 7 #[] w fun e w' => e = .returned (.bool true) ∧ Below w.heap.size w w' := by
  have HBS := Lib.hid (base_nil 9 2 w (by omega) (by omega) (by omega))
  have k1 : sealCode ((2 : Nat) : Int) 0 2 ⟨#[120]⟩ = 0 := by rfl
  have k2 : sealCode 2 0 2 ⟨#[121]⟩ = 0 := by rfl
  have HK1 := Lib.hid k1
  have HK2 := Lib.hid k2
  clear k1 k2
  go_enter Tryz.func7, Tryz.ntmps7
  go_wp2_with fail
  refine HBS.out.mono ?_
  rintro e w1 hR
  obtain ⟨db, rb, fb, rf, rfl, hN⟩ := full_new 9 w w1 e hR
  have HN := Lib.hid hN
  clear hR hN HBS
  go_wp2_with fail
  refine HN.out.mono ?_
  rintro e w2 ⟨pb, rfl, hI⟩
  have HM := Lib.hid (full_make 2 0 ⟨#[120]⟩ hI (by omega) (by omega) HK1.out (by show 1 ≤ 1000000; omega))
  clear hI HN
  go_wp2_with fail
  refine HM.out.mono ?_
  rintro e w3 ⟨rfl, s, U, hP, hF, hA, hW, hB⟩
  have hin : (2 : Int) ∈ s.A.map (·.1) := by rw [hA]; simp
  have HRD := Lib.hid (pg_read_made 2 2 0 ⟨#[120]⟩ hP (by decide) (by omega) (by rw [hF.pages]; omega) hin (fun v hv => by
    rw [hA] at hv
    have e : ((2 : Int), v) = (((2 : Nat) : Int), pgv 2 0 ⟨#[120]⟩) := by simpa using hv
    injection e))
  have HP := Lib.hid hP
  have HF := Lib.hid hF
  have HA := Lib.hid hA
  have HB := Lib.hid hB
  have HIN := Lib.hid hin
  clear hP hF hA hW hB hin HM
  unfold pgv at HRD
  go_wp2_with fail
  refine HRD.out.mono ?_
  rintro e w4 ⟨rfl, hb4⟩
  have hal : Below w4.heap.size w4 (w4.alloc (.cells #[.int .i64 2, .int .i64 0, .string ⟨#[120]⟩] 23)) := (Below.refl _ w4).alloc (Nat.le_refl _) _
  have hb5 : Below w3.heap.size w3 (w4.alloc (.cells #[.int .i64 2, .int .i64 0, .string ⟨#[120]⟩] 23)) := hb4.trans (hal.mono hb4.size)
  have hP5 := HP.out.below hb5
  have hx5 : (w4.alloc (.cells #[.int .i64 2, .int .i64 0, .string ⟨#[120]⟩] 23)).cell? ⟨w4.heap.size, 2, none⟩ = some (.string ⟨#[120]⟩) := by
    rw [cell_of_row _ _ _ _ _ _ (heap_alloc_new w4 _)]
    rfl
  have HDR := Lib.hid (pg_drop_own 2 hP5 (by decide) (by omega) (by rw [HF.out.pages]; omega) HF.out.pg HIN.out (by rw [HF.out.l]; simp) (by rw [HF.out.sp]; simp) (by have := HF.out.nm; omega))
  have HX5 := Lib.hid hx5
  have HB5 : Hid (Below w.heap.size w (w4.alloc (.cells #[.int .i64 2, .int .i64 0, .string ⟨#[120]⟩] 23))) := Lib.hid (HB.out.trans (hb5.mono HB.out.size))
  have HXU : Hid (¬ U w4.heap.size) := Lib.hid (fun hU => by
    have := HP.out.lt _ hU
    have := hb4.size
    omega)
  have HZ5 : Hid ((w4.alloc (.cells #[.int .i64 2, .int .i64 0, .string ⟨#[120]⟩] 23)).heap.size = w4.heap.size + 1) := Lib.hid (by simp)
  have HP5 := Lib.hid hP5
  clear hal hb5 hP5 hx5 hb4 HP HB HRD
  go_wp2_with fail
  refine HDR.out.mono ?_
  rintro e w6 ⟨rfl, s6, U6, hD, hP6, hS6⟩
  obtain ⟨hG, hA6⟩ := HF.out.drop hD
  have HMK := Lib.hid (pg_make 2 0 ⟨#[121]⟩ hP6 (by rw [hG.nw, hG.most]; omega) (by rw [hG.most]; omega) (by rw [hG.pages, hG.nw]; exact Nat.le_refl _) (by rw [hG.next]; decide) (by show 1 ≤ 1000000; omega) (by have := hG.nm; omega))
  have HX6 : Hid (w6.cell? ⟨w4.heap.size, 2, none⟩ = some (.string ⟨#[120]⟩)) := Lib.hid ((hS6.1.cell (p := ⟨w4.heap.size, 2, none⟩) (cell_lt HX5.out) HXU.out).trans HX5.out)
  have HXU6 : Hid (¬ U6 w4.heap.size) := Lib.hid (fun hU => by
    rcases hS6.2 _ hU with h1 | h1
    · exact HXU.out h1
    · have := HZ5.out
      omega)
  have HB6 := Lib.hid (HP5.out.bel hS6 HB5.out)
  have HG := Lib.hid hG
  have HP6 := Lib.hid hP6
  clear hD hP6 hS6 hG HDR HX5 HXU HB5 HP5 HZ5
  go_wp2_with fail
  refine HMK.out.mono ?_
  rintro e w7 ⟨s7, U7, hM, hP7, hS7⟩
  obtain ⟨rfl, hp7, hA7, hAll⟩ := HG.out.make HK2.out hM
  have hx7 : w7.cell? ⟨w4.heap.size, 2, none⟩ = some (.string ⟨#[120]⟩) := (hS7.1.cell (p := ⟨w4.heap.size, 2, none⟩) (cell_lt HX6.out) HXU6.out).trans HX6.out
  have HPG := Lib.hid (pg_pages hP7)
  rw [hp7] at HPG
  have HOW := Lib.hid (pg_own 2 hP7 hAll (by decide))
  rw [show decide ((2 : Int) ∈ s7.A.map (·.1)) = true from decide_eq_true (by rw [hA7]; simp)] at HOW
  have HB7 := Lib.hid (HP6.out.bel hS7 HB6.out)
  clear hM hP7 hS7 hp7 hA7 hAll HMK HX6 HXU6 HB6 HG HP6
  go_wp2_with fail
  refine HPG.out.mono ?_
  rintro e w8 ⟨rfl, rfl⟩
  go_wp2_with fail
  refine HOW.out.mono ?_
  rintro e w9 ⟨rfl, hb9⟩
  have HB9 := Lib.hid (HB7.out.trans (hb9.mono HB7.out.size))
  clear hb9
  go_wp2
  go_ret
  exact ⟨rfl, HB9.out⟩
end Go.Proofs.YtoagbcbkaloacaaGreatDoor
