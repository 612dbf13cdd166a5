/- arboretumlaw2.Filled: a page of one byte, with another one at a place. -/
import Derived.Test.YtpoiopjggmhnjaaDoorDevS
import Derived.OwnWalk
import Derived.Laws.IdiomStrings
import Derived.Laws.BitsLemmas
namespace Go.Proofs.YtpoiopjggmhnjaaDoor
open Go.RowKit Go.Conc

theorem info_u8 : (Tryd.prog.info? 5).map (fun i => (i.zero, i.size, i.bytes)) = some (some (.int .u8 0), 1, 1) := by kernel_rfl
def fillL (b k : Nat) : List UInt8 := (List.range 256).map (fun i => if i = k then UInt8.ofNat (b + 1) else UInt8.ofNat b)
def fill (b k : Nat) : ByteArray := ⟨(fillL b k).toArray⟩

theorem i64_and255 (n : Int) : bits .and .i64 n 255 = n % 256 := by
  have h255 : (BitVec.ofInt 64 255).toNat = 2 ^ 8 - 1 := by decide
  have key : (BitVec.ofInt 64 n &&& BitVec.ofInt 64 255).toNat = (n % ((2 ^ 64 : Nat) : Int)).toNat % 2 ^ 8 := by
    rw [BitVec.toNat_and, BitVec.toNat_ofInt, h255, Nat.and_two_pow_sub_one_eq_mod]
  show IntKind.i64.wrap ((BitVec.ofInt 64 n &&& BitVec.ofInt 64 255).toNat : Nat) = n % 256
  rw [key, IntKind.wrap_i64]
  omega

theorem fillL_length (b k : Nat) : (fillL b k).length = 256 := by simp [fillL]
theorem fillL_at (b k : Nat) (hb : b < 256) (j : Nat) (hj : j < (fillL b k).length) : (((fillL b k)[j]).toNat : Int) = if j = k then ((b : Int) + 1) % 256 else (b : Int) := by
  have hj' : j < 256 := by rw [fillL_length] at hj; exact hj
  simp only [fillL, List.getElem_map, List.getElem_range]
  by_cases e : j = k
  · rw [if_pos e, if_pos e]
    simp
  · rw [if_neg e, if_neg e]
    simp
    omega

set_option maxHeartbeats 1000000 in
set_option maxRecDepth 100000 in
theorem filled_str (b at' : Nat) (hb : b < 256) (w : World) :
    Calls Tryd.prog 25 #[.int .u8 b, .int .i64 at'] w fun e w' => e = .returned (.string (fill b (at' % 256))) ∧ Below w.heap.size w w' := by
  obtain ⟨i0, hi0, hz0, hz1, hz2⟩ := info_parts info_u8
  go_enter Tryd.func25, Tryd.ntmps25
  go_wp2_with (refine wpList_make_full _ rfl _ _ _ rfl w.heap.size 5 i0 _ 1 Tryd.underlying29 hi0 hz0 hz1 .i64 .i64 256 256 256 rfl rfl rfl rfl (by rw [hz2]; omega) (by unfold maxLen; omega) (Nat.le_refl _) ?_; intro w1 how hgr; have HO := Lib.hid how; have HG := Lib.hid hgr; clear how hgr)
  have HB1 : Hid (Below w.heap.size w w1) := (Below.refl _ w).grown HG.out (Nat.le_refl _) (fun k hk => by cases hk)
  have HST : Hid (∃ xs : List Value, xs.length = 256 ∧ w1.ownsRow w.heap.size 5 1 (.slice (some ⟨w.heap.size, 0, none⟩) 256 256) 256 xs) := ⟨_, by have := HO.out.1; simpa using this, HO.out⟩
  clear HO HG
  go_loopw [6] (fun iv wr => ∃ i : Nat, i ≤ 256 ∧ iv = .int .i64 i ∧ Below w.heap.size w wr ∧ ∃ xs : List Value, xs.length = 256 ∧ wr.ownsRow w.heap.size 5 1 (.slice (some ⟨w.heap.size, 0, none⟩) 256 256) 256 xs ∧ ∀ j, j < i → xs[j]? = some (.int .u8 b)) (fun iv _ => 256 - (intOf iv).toNat)
  case atStart =>
    obtain ⟨xs, hx, ho⟩ := HST.out
    exact ⟨0, by omega, rfl, HB1.out, xs, hx, ho, fun j hj => by omega⟩
  case round =>
    clear HST HB1
    obtain ⟨i, hi, rfl, hb1, xs, hx, ho, hall⟩ := hrel
    have HB := Lib.hid hb1
    have HO := Lib.hid ho
    have HX := Lib.hid hx
    have HALL := Lib.hid hall
    clear hb1 ho hx hall
    by_cases hlt : i < 256
    · have hcell : ∃ u, wr.cell? ⟨w.heap.size, i, none⟩ = some u := by
        obtain ⟨u, hu⟩ : ∃ u, xs[i]? = some u := ⟨_, List.getElem?_eq_getElem (by rw [HX.out]; exact hlt)⟩
        have e := HO.out.cells (g := w.heap.size) rfl i u hu
        rw [add_at0] at e
        exact ⟨u, e⟩
      obtain ⟨u, hcell⟩ := hcell
      have hfz := HO.out.frozenAt i
      have HS := Lib.hid (HO.out.stored i (.int .u8 b))
      have hsz := HB.out.size
      go_wp2
      go_roundw
      case rel =>
        refine ⟨i + 1, by omega, by go_num, HB.out.setCell (p := ⟨w.heap.size, i, none⟩) (Nat.le_refl _) _, xs.set i (.int .u8 b), by rw [List.length_set]; exact HX.out, HS.out.1, fun j hj => ?_⟩
        rw [List.getElem?_set]
        by_cases e : i = j
        · rw [if_pos e, if_pos (by rw [HX.out]; exact hlt)]
        · rw [if_neg e]; exact HALL.out j (by omega)
      case measure => simp [intOf]; omega
    · have hcell : ∃ u, wr.cell? ⟨w.heap.size, at' % 256, none⟩ = some u := by
        obtain ⟨u, hu⟩ : ∃ u, xs[at' % 256]? = some u := ⟨_, List.getElem?_eq_getElem (by rw [HX.out]; omega)⟩
        have e := HO.out.cells (g := w.heap.size) rfl (at' % 256) u hu
        rw [add_at0] at e
        exact ⟨u, e⟩
      obtain ⟨u, hcell⟩ := hcell
      have hfz := HO.out.frozenAt (at' % 256)
      have HS := Lib.hid (HO.out.stored (at' % 256) (.int .u8 (((b : Int) + 1) % 256)))
      have hsz := HB.out.size
      have hbit : bits BinOp.and IntKind.i64 (at' : Int) 255 = ((at' % 256 : Nat) : Int) := by rw [i64_and255]; omega
      have hm : at' % 256 < 256 := Nat.mod_lt _ (by omega)
      have HALL2 : Hid (∀ j (hj : j < (fillL b (at' % 256)).length), (wr.setCell ⟨w.heap.size, at' % 256, none⟩ (.int .u8 (((b : Int) + 1) % 256))).cell? ((⟨w.heap.size, 0, none⟩ : Addr).add j) = some (.int .u8 (((fillL b (at' % 256))[j]).toNat : Int))) := Lib.hid (by
        intro j hj
        have hj' : j < 256 := by rw [fillL_length] at hj; exact hj
        refine HS.out.1.cells (g := w.heap.size) rfl j _ ?_
        rw [List.getElem?_set, fillL_at b _ hb j hj]
        by_cases e : at' % 256 = j
        · rw [if_pos e, if_pos (by rw [HX.out]; omega), if_pos e.symm]
        · rw [if_neg e, if_neg (fun h => e h.symm)]
          exact HALL.out j (by omega))
      have hcv : (convert 29 9 (.slice (some ⟨w.heap.size, 0, none⟩) 256 256)).run Tryd.prog (wr.setCell ⟨w.heap.size, at' % 256, none⟩ (.int .u8 (((b : Int) + 1) % 256))) = .ok (.string (fill b (at' % 256))) (wr.setCell ⟨w.heap.size, at' % 256, none⟩ (.int .u8 (((b : Int) + 1) % 256))) := by
        have e := run_convert_bytes_back (P := Tryd.prog) (wr.setCell ⟨w.heap.size, at' % 256, none⟩ (.int .u8 (((b : Int) + 1) % 256))) 29 9 5 ⟨w.heap.size, 0, none⟩ 256 (fillL b (at' % 256)) Tryd.underlying29 Tryd.underlying5 Tryd.underlying9 HALL2.out
        rw [fillL_length] at e
        exact e
      generalize hq : at' % 256 = q at *
      generalize hS : fill b q = S at *
      have HSS := Lib.hid hS
      clear hS
      have HBE : Hid (Below w.heap.size w (wr.setCell ⟨w.heap.size, q, none⟩ (.int .u8 (((b : Int) + 1) % 256)))) := HB.out.setCell (p := ⟨w.heap.size, q, none⟩) (Nat.le_refl _) _
      have HQ := Lib.hid hq
      clear hq HALL2 HS
      go_wp2
      go_ret
      exact ⟨by rw [HQ.out, HSS.out]; rfl, HBE.out⟩
end Go.Proofs.YtpoiopjggmhnjaaDoor
