/- meta: Choose. -/
import Derived.Test.YtpoiopjggmhnjaaDoorMetaW
namespace Go.Proofs.YtpoiopjggmhnjaaDoor
open Go.RowKit

/-- What a page bears: a meta, or it is not opened. -/
def PageIs (at' : Nat) (page : ByteArray) : Option Mt → Prop
  | some m => m.ok ∧ m.txn % 2 = at' ∧ page = metaP m
  | none => ∃ k : Int, k ≠ 0 ∧ ∀ w, Calls Tryd.prog 30 #[.int .i64 at', .string page] w fun e w' => e = .returned (.tuple #[pv 0 0 ByteArray.empty, .int .i64 k]) ∧ Below w.heap.size w w'
def mt0 : Mt := ⟨0, 0, 0, 0⟩

theorem meta_get_is {at' : Nat} {page : ByteArray} {r : Option Mt} (h : PageIs at' page r) (w : World) :
    Calls Tryd.prog 11 #[.int .i64 at', .string page] w fun e w' => ∃ k : Int, e = .returned (.tuple #[mtv (r.getD mt0), .int .i64 k]) ∧ (k == 0) = r.isSome ∧ Below w.heap.size w w' := by
  cases r with
  | some m =>
    obtain ⟨hm, rfl, rfl⟩ := h
    exact (meta_get m w hm).mono fun e w' ⟨he, hb⟩ => ⟨0, he, rfl, hb⟩
  | none =>
    obtain ⟨k, hk, ho⟩ := h
    exact (meta_get_err at' k page hk (Lib.hid ho) w).mono fun e w' ⟨he, hb⟩ => ⟨k, he, by rw [beq_eq_false_iff_ne.2 hk]; rfl, hb⟩

/-- The newest of the first k pages. -/
def newer (b : Option Mt) (r : Option Mt) : Option Mt :=
  match r with
  | none => b
  | some m => match b with
    | none => some m
    | some x => if x.txn < m.txn then some m else some x
def chosen (r : Nat → Option Mt) : Nat → Option Mt
  | 0 => none
  | k + 1 => newer (chosen r k) (r k)

def MtB (B : Nat) (m : Mt) (w : World) : Prop := ∀ i, i < 4 → w.cell? ⟨B, i, none⟩ = some (.int .i64 (HL.el m.l i : Nat)) ∧ w.frozen? ⟨B, i, none⟩ = false
theorem MtB.keep {B : Nat} {m : Mt} {w w' : World} {T : Nat → Prop} (h : MtB B m w) (hF : Fr T w w') (hT : ¬ T B) : MtB B m w' := fun i hi => by
  have hlt : B < w.heap.size := cell_lt (h i hi).1
  exact ⟨(hF.cell (p := ⟨B, i, none⟩) hlt hT).trans (h i hi).1, (hF.frozen (p := ⟨B, i, none⟩) hlt hT).trans (h i hi).2⟩
theorem MtB.cells {B : Nat} {m : Mt} {w : World} (h : MtB B m w) : w.cell? ⟨B, 0, none⟩ = some (.int .i64 m.txn) ∧ w.cell? ⟨B, 1, none⟩ = some (.int .i64 m.root) ∧ w.cell? ⟨B, 2, none⟩ = some (.int .i64 m.free) ∧ w.cell? ⟨B, 3, none⟩ = some (.int .i64 m.pages) :=
  ⟨(h 0 (by omega)).1, (h 1 (by omega)).1, (h 2 (by omega)).1, (h 3 (by omega)).1⟩
theorem MtB.put {B : Nat} {m x : Mt} {w : World} (h : MtB B m w) : MtB B x ((((w.setCell ⟨B, 0, none⟩ (.int .i64 x.txn)).setCell ⟨B, 1, none⟩ (.int .i64 x.root)).setCell ⟨B, 2, none⟩ (.int .i64 x.free)).setCell ⟨B, 3, none⟩ (.int .i64 x.pages)) := by
  obtain ⟨d0, d1, d2, d3⟩ := h.cells
  obtain ⟨x0, x1, x2, x3⟩ := cells4m (v0 := .int .i64 x.txn) (v1 := .int .i64 x.root) (v2 := .int .i64 x.free) (v3 := .int .i64 x.pages) d0 d1 d2 d3
  intro i hi
  refine ⟨?_, by rw [frozen_set, frozen_set, frozen_set, frozen_set]; exact (h i hi).2⟩
  match i, hi with
  | 0, _ => exact x0
  | 1, _ => exact x1
  | 2, _ => exact x2
  | 3, _ => exact x3
theorem MtB.fresh (w : World) (m : Mt) : MtB w.heap.size m (w.alloc (.cells #[.int .i64 m.txn, .int .i64 m.root, .int .i64 m.free, .int .i64 m.pages] 23)) := fun i hi => by
  have h := heap_alloc_new w (.cells #[.int .i64 m.txn, .int .i64 m.root, .int .i64 m.free, .int .i64 m.pages] 23)
  refine ⟨?_, ?_⟩
  · rw [cell_of_row _ _ _ _ _ _ h]
    match i, hi with
    | 0, _ => rfl
    | 1, _ => rfl
    | 2, _ => rfl
    | 3, _ => rfl
  · unfold World.frozen?
    rw [h]
    simp

def chE (b : Option Mt) : Int := if b.isSome then 0 else 15
def ChR (w : World) (b : Option Mt) (wr : World) : Prop := MtB w.heap.size mt0 wr ∧ MtB (w.heap.size + 1) (b.getD mt0) wr ∧ Below w.heap.size w wr

set_option maxHeartbeats 4000000 in
set_option maxRecDepth 100000 in
theorem meta_choose {db base : Nat} {m0 lf : Int} {fu : Bool} {sy nw : List ByteArray} {ws : List Wr} {F : Nat → Prop} {w : World} (r : Nat → Option Mt) (h : Dv db base m0 true fu lf sy nw ws F w) (hn : 2 ≤ nw.length) (hr : ∀ k, k < 2 → PageIs k (nw.getD k default) (r k)) :
    Calls Tryd.prog 20 #[.pointer (some ⟨db, 0, none⟩)] w fun e w' => e = .returned (.tuple #[mtv ((chosen r 2).getD mt0), .int .i64 (chE (chosen r 2))]) ∧ Below w.heap.size w w' := by
  have HRD := Lib.hid (fun k (hk : k < 2) W (hb : Below w.heap.size w W) => dv_read k (h.keep (Fr.of_all (S := fun _ => False) hb) (fun _ _ h => h)) (by omega))
  have HG := Lib.hid (fun k (hk : k < 2) W => meta_get_is (hr k hk) W)
  clear h hn hr
  go_enter Tryd.func20, Tryd.ntmps20
  have h1 := MtB.fresh w mt0
  have h2 := MtB.fresh (w.alloc (.cells #[.int .i64 0, .int .i64 0, .int .i64 0, .int .i64 0] 23)) mt0
  rw [World.size_alloc] at h2
  have HR0 : Hid (ChR w none ((w.alloc (.cells #[.int .i64 0, .int .i64 0, .int .i64 0, .int .i64 0] 23)).alloc (.cells #[.int .i64 0, .int .i64 0, .int .i64 0, .int .i64 0] 23))) := Lib.hid ⟨h1.keep ((Fr.refl (fun _ => False) _).alloc _) (fun h => h), h2, ((Below.refl _ w).alloc (Nat.le_refl _) _).alloc (by simp) _⟩
  clear h1 h2
  go_wp2
  go_loopw [5, 10] (fun fd i wr => ∃ k : Nat, k ≤ 2 ∧ i = .int .i64 k ∧ fd = .bool (chosen r k).isSome ∧ Hid (ChR w (chosen r k) wr)) (fun _ i _ => 2 - (intOf i).toNat)
  case atStart => exact ⟨0, Nat.zero_le _, rfl, rfl, HR0⟩
  case round =>
    obtain ⟨k, hk, rfl, rfl, hrel⟩ := hrel
    by_cases hk2 : k < 2
    · have hbw := hrel.out.2.2
      have HD := Lib.hid (HRD.out k hk2 wr hbw)
      have HGK := Lib.hid (HG.out k hk2 wr)
      have hnx : Hid (chosen r (k + 1) = newer (chosen r k) (r k)) := Lib.hid rfl
      generalize nw.getD k default = page at *
      generalize chosen r k = b at *
      generalize hrk : r k = rk at *
      clear hrk
      have hszw := hbw.size
      have HRL : Hid (ChR w b wr) := hrel
      clear hrel hbw
      go_wp2_with fail
      refine HD.out.mono ?_
      rintro e w1 ⟨rfl, rfl⟩
      go_wp2_with fail
      refine HGK.out.mono ?_
      rintro e w2 ⟨kk, rfl, hkk, hb2⟩
      have hF2 : Fr (fun _ => False) w1 (w2.alloc (.cells #[.int .i64 (rk.getD mt0).txn, .int .i64 (rk.getD mt0).root, .int .i64 (rk.getD mt0).free, .int .i64 (rk.getD mt0).pages] 23)) := (Fr.of_all (S := fun _ => False) hb2).alloc _
      have hA := HRL.out.1.keep hF2 (fun h => h)
      have hB := HRL.out.2.1.keep hF2 (fun h => h)
      have hC := MtB.fresh w2 (rk.getD mt0)
      have hb3 : Below w.heap.size w (w2.alloc (.cells #[.int .i64 (rk.getD mt0).txn, .int .i64 (rk.getD mt0).root, .int .i64 (rk.getD mt0).free, .int .i64 (rk.getD mt0).pages] 23)) := HRL.out.2.2.trans ((hb2.alloc hb2.size _).mono hszw)
      have hw1 : w.heap.size + 1 < w2.heap.size := by
        have := cell_lt (HRL.out.2.1 0 (by omega)).1
        have := hb2.size
        simp at *
        omega
      obtain ⟨c0, c1, c2, c3⟩ := hC.cells
      obtain ⟨d0, d1, d2, d3⟩ := hB.cells
      have hB2 := HRL.out.2.1.keep (Fr.of_all (S := fun _ => False) hb2) (fun h => h)
      obtain ⟨f0, f1, f2, f3⟩ := hB2.cells
      have g0 := (hB2 0 (by omega)).2
      have g1 := (hB2 1 (by omega)).2
      have g2 := (hB2 2 (by omega)).2
      have g3 := (hB2 3 (by omega)).2
      clear hB2
      have e0 := (hB 0 (by omega)).2
      have e1 := (hB 1 (by omega)).2
      have e2 := (hB 2 (by omega)).2
      have e3 := (hB 3 (by omega)).2
      have HST : Hid (∀ m : Mt, ChR w (some m) (((((w2.setCell ⟨w.heap.size + 1, 0, none⟩ (.int .i64 m.txn)).setCell ⟨w.heap.size + 1, 1, none⟩ (.int .i64 m.root)).setCell ⟨w.heap.size + 1, 2, none⟩ (.int .i64 m.free)).setCell ⟨w.heap.size + 1, 3, none⟩ (.int .i64 m.pages)).alloc (.cells #[.int .i64 m.txn, .int .i64 m.root, .int .i64 m.free, .int .i64 m.pages] 23))) := Lib.hid (fun m => by
        have hF : Fr (fun _ => False) w1 w2 := Fr.of_all (S := fun _ => False) hb2
        have hFS : Fr (fun k => k = w.heap.size + 1) w2 ((((w2.setCell ⟨w.heap.size + 1, 0, none⟩ (.int .i64 m.txn)).setCell ⟨w.heap.size + 1, 1, none⟩ (.int .i64 m.root)).setCell ⟨w.heap.size + 1, 2, none⟩ (.int .i64 m.free)).setCell ⟨w.heap.size + 1, 3, none⟩ (.int .i64 m.pages)) := ((((Fr.refl (fun k => k = w.heap.size + 1) w2).setCell (p := ⟨w.heap.size + 1, 0, none⟩) (fun _ => rfl) _).setCell (p := ⟨w.heap.size + 1, 1, none⟩) (fun _ => rfl) _).setCell (p := ⟨w.heap.size + 1, 2, none⟩) (fun _ => rfl) _).setCell (p := ⟨w.heap.size + 1, 3, none⟩) (fun _ => rfl) _
        refine ⟨((HRL.out.1.keep hF (fun h => h)).keep hFS (by show ¬ w.heap.size = w.heap.size + 1; omega)).keep ((Fr.refl (fun _ => False) _).alloc _) (fun h => h), ((HRL.out.2.1.keep hF (fun h => h)).put (x := m)).keep ((Fr.refl (fun _ => False) _).alloc _) (fun h => h), ?_⟩
        have h9 : Below w.heap.size w ((((w2.setCell ⟨w.heap.size + 1, 0, none⟩ (.int .i64 m.txn)).setCell ⟨w.heap.size + 1, 1, none⟩ (.int .i64 m.root)).setCell ⟨w.heap.size + 1, 2, none⟩ (.int .i64 m.free)).setCell ⟨w.heap.size + 1, 3, none⟩ (.int .i64 m.pages)) := (HRL.out.2.2.trans (hb2.mono hszw)).trans (hFS.below (by omega) (fun i hi => by have : i = w.heap.size + 1 := hi; omega))
        exact h9.alloc h9.size _)
      have HAB := Lib.hid (And.intro hA (And.intro hB hb3))
      clear hA hB hC hb3 hF2 hb2 HRL
      unfold mtv
      cases rk with
      | none =>
        have hk0 : (kk == 0) = false := hkk
        have HN : Hid (chosen r (k + 1) = b) := Lib.hid hnx.out
        clear hkk hnx HST
        go_wp2
        go_roundw
        case rel => exact ⟨k + 1, by omega, by go_num, by rw [HN.out], by rw [HN.out]; exact Lib.hid HAB.out⟩
        case measure => simp [intOf]; omega
      | some m =>
        have hk0 : (kk == 0) = true := hkk
        cases b with
        | none =>
          simp only [Option.getD_some, Option.getD_none, Option.isSome_none] at c0 c1 c2 c3 d0 d1 d2 d3 e0 e1 e2 e3 f0 f1 f2 f3 ⊢
          have HN : Hid (chosen r (k + 1) = some m) := Lib.hid hnx.out
          clear hkk hnx
          go_wp2
          go_roundw
          case rel => exact ⟨k + 1, by omega, by go_num, by rw [HN.out]; rfl, by rw [HN.out]; exact Lib.hid (HST.out m)⟩
          case measure => simp [intOf]; omega
        | some x =>
          simp only [Option.getD_some, Option.isSome_some] at c0 c1 c2 c3 d0 d1 d2 d3 e0 e1 e2 e3 f0 f1 f2 f3 ⊢
          by_cases hlt : x.txn < m.txn
          · have HN : Hid (chosen r (k + 1) = some m) := Lib.hid (hnx.out.trans (by simp [newer, hlt]))
            have hl1 : (x.txn : Int) < m.txn := by omega
            clear hkk hnx
            go_wp2
            go_roundw
            case rel => exact ⟨k + 1, by omega, by go_num, by rw [HN.out]; rfl, by rw [HN.out]; exact Lib.hid (HST.out m)⟩
            case measure => simp [intOf]; omega
          · have HN : Hid (chosen r (k + 1) = some x) := Lib.hid (hnx.out.trans (by simp [newer, hlt]))
            have hl1 : ¬ (x.txn : Int) < m.txn := by omega
            clear hkk hnx HST
            go_wp2
            go_roundw
            case rel => exact ⟨k + 1, by omega, by go_num, by rw [HN.out]; rfl, by rw [HN.out]; exact Lib.hid HAB.out⟩
            case measure => simp [intOf]; omega
    · obtain rfl : k = 2 := by omega
      obtain ⟨hA, hB, hbw⟩ := hrel.out
      have HB := Lib.hid hbw
      have hszw := hbw.size
      obtain ⟨d0, d1, d2, d3⟩ := hB.cells
      obtain ⟨f0, f1, f2, f3⟩ := hA.cells
      have g0 := (hA 0 (by omega)).2
      have g1 := (hA 1 (by omega)).2
      have g2 := (hA 2 (by omega)).2
      have g3 := (hA 3 (by omega)).2
      have hlt : w.heap.size < wr.heap.size := cell_lt f0
      clear hA hB hbw hrel
      have HEND : Hid (∀ v0 v1 v2 v3 : Value, Below w.heap.size w ((((wr.setCell ⟨w.heap.size, 0, none⟩ v0).setCell ⟨w.heap.size, 1, none⟩ v1).setCell ⟨w.heap.size, 2, none⟩ v2).setCell ⟨w.heap.size, 3, none⟩ v3)) := Lib.hid (fun _ _ _ _ => (((HB.out.setCell (p := ⟨w.heap.size, 0, none⟩) (Nat.le_refl _) _).setCell (p := ⟨w.heap.size, 1, none⟩) (Nat.le_refl _) _).setCell (p := ⟨w.heap.size, 2, none⟩) (Nat.le_refl _) _).setCell (p := ⟨w.heap.size, 3, none⟩) (Nat.le_refl _) _)
      cases hb : chosen r 2 with
      | none =>
        simp only [Option.isSome_none]
        have HBE := Lib.hid hb
        clear hb d0 d1 d2 d3
        obtain ⟨x0, x1, x2, x3⟩ := cells4m (v0 := .int .i64 0) (v1 := .int .i64 0) (v2 := .int .i64 0) (v3 := .int .i64 0) f0 f1 f2 f3
        go_wp2
        exact bodyPost_ret (v := .tuple #[mtv mt0, .int .i64 15]) (by simp [results, Tryd.results20, go_sem, mtv, mt0, x0, x1, x2, x3]) rfl ⟨by first | (rw [HBE.out]; rfl) | rfl, HEND.out _ _ _ _⟩
      | some m =>
        simp only [Option.isSome_some]
        rw [hb] at d0 d1 d2 d3
        simp only [Option.getD_some] at d0 d1 d2 d3
        have HBE := Lib.hid hb
        clear hb
        obtain ⟨x0, x1, x2, x3⟩ := cells4m (v0 := .int .i64 m.txn) (v1 := .int .i64 m.root) (v2 := .int .i64 m.free) (v3 := .int .i64 m.pages) f0 f1 f2 f3
        go_wp2
        exact bodyPost_ret (v := .tuple #[mtv m, .int .i64 0]) (by simp [results, Tryd.results20, go_sem, mtv, x0, x1, x2, x3]) rfl ⟨by first | (rw [HBE.out]; rfl) | rfl, HEND.out _ _ _ _⟩
end Go.Proofs.YtpoiopjggmhnjaaDoor
