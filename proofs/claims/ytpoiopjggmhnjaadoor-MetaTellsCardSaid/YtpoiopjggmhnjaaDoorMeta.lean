/- meta: Place, Put. -/
import Derived.Test.YtpoiopjggmhnjaaDoorDvC
import Derived.Test.YtpoiopjggmhnjaaDoorSealL
namespace Go.Proofs.YtpoiopjggmhnjaaDoor
open Go.RowKit

set_option maxRecDepth 100000 in
theorem meta_place (t : Nat) (w : World) (ht : t < 2 ^ 62) : Calls Tryd.prog 9 #[.int .i64 t] w fun e w' => e = .returned (.int .i64 ((t % 2 : Nat) : Int)) ∧ w' = w := by
  have hb : bits .and .i64 (t : Int) 1 = ((t % 2 : Nat) : Int) := by
    have e1 : (BitVec.ofInt 64 (t : Int)).toNat = t := by rw [BitVec.toNat_ofInt]; omega
    have key : (BitVec.ofInt 64 (t : Int) &&& BitVec.ofInt 64 1).toNat = t % 2 := by
      rw [BitVec.toNat_and, e1, show (BitVec.ofInt 64 1).toNat = 1 from by decide, Nat.and_one_is_mod]
    show IntKind.i64.wrap ((BitVec.ofInt 64 (t : Int) &&& BitVec.ofInt 64 1).toNat : Nat) = _
    rw [key]
    exact i64_small _ (by omega)
  go_enter Tryd.func9, Tryd.ntmps9
  go_wp2
  go_ret
  exact ⟨rfl, rfl⟩

/-- The body of a meta. -/
def metaL (vs : List Nat) : List UInt8 := vs.flatMap (fun v => fixL v 6)
def metaS (vs : List Nat) : ByteArray := ⟨(metaL vs).toArray⟩
theorem metaL_length (vs : List Nat) : (metaL vs).length = vs.length * 6 := by
  induction vs with
  | nil => rfl
  | cons v vs ih =>
    have : metaL (v :: vs) = fixL v 6 ++ metaL vs := by simp [metaL]
    rw [this, List.length_append, fixL_length, ih, List.length_cons]
    omega
theorem metaS_size (vs : List Nat) : (metaS vs).size = vs.length * 6 := by
  show (metaL vs).toArray.size = _
  rw [List.size_toArray, metaL_length]
theorem metaS_snoc (vs : List Nat) (v : Nat) : metaS vs ++ fixS v 6 = metaS (vs ++ [v]) := by
  apply ByteArray.ext
  apply Array.toList_inj.1
  simp [metaS, fixS, metaL]

/-- A meta whose numbers fit. -/
structure Mt where
  txn : Nat
  root : Nat
  free : Nat
  pages : Nat
def Mt.l (m : Mt) : List Nat := [m.txn, m.root, m.free, m.pages]
def Mt.ok (m : Mt) : Prop := ∀ k, k < 4 → HL.el m.l k < 2 ^ 48
def mtv (m : Mt) : Value := .agg #[.int .i64 m.txn, .int .i64 m.root, .int .i64 m.free, .int .i64 m.pages]
/-- The page that bears it. -/
def metaP (m : Mt) : ByteArray := sealS (m.txn % 2) 0 1 (metaS m.l)

set_option maxHeartbeats 2000000 in
set_option maxRecDepth 100000 in
theorem meta_put (m : Mt) (w : World) (hm : m.ok) : Calls Tryd.prog 7 #[mtv m] w fun e w' => e = .returned (.tuple #[.string (metaP m), .int .i64 0]) ∧ Below w.heap.size w w' := by
  have hok := Lib.hid hm
  have HPL := Lib.hid (fun w => meta_place m.txn w (by have := hm 0 (by omega); simp only [Mt.l, HL.el, List.getD_cons_zero] at this; omega))
  have HSE := Lib.hid (fun w => page_seal (m.txn % 2) 0 1 (metaS m.l) w (by omega) (by omega) (by omega) (by omega) (by rw [metaS_size]; simp [Mt.l]))
  have hcell : ∀ k, k < 4 → (#[Value.int .i64 m.txn, .int .i64 m.root, .int .i64 m.free, .int .i64 m.pages])[k]? = some (.int .i64 (HL.el m.l k : Nat)) := by
    intro k hk
    match k, hk with
    | 0, _ => rfl
    | 1, _ => rfl
    | 2, _ => rfl
    | 3, _ => rfl
  have HCL := Lib.hid hcell
  clear hm hcell
  unfold mtv
  go_enter Tryd.func7, Tryd.ntmps7
  go_wp2
  have hcs : ∀ k, k < 4 → (((w.alloc (.cells #[.int .i64 m.txn, .int .i64 m.root, .int .i64 m.free, .int .i64 m.pages] 23)).alloc (.cells #[.int .i64 m.txn, .int .i64 m.root, .int .i64 m.free, .int .i64 m.pages] 3))).cell? ⟨w.heap.size + 1, k, none⟩ = some (.int .i64 (HL.el m.l k : Nat)) := by
    intro k hk
    have h := heap_alloc_new (w.alloc (.cells #[.int .i64 m.txn, .int .i64 m.root, .int .i64 m.free, .int .i64 m.pages] 23)) (.cells #[.int .i64 m.txn, .int .i64 m.root, .int .i64 m.free, .int .i64 m.pages] 3)
    rw [World.size_alloc] at h
    rw [cell_of_row _ _ _ _ _ _ h]
    exact HCL.out k hk
  have ht0 : (((w.alloc (.cells #[.int .i64 m.txn, .int .i64 m.root, .int .i64 m.free, .int .i64 m.pages] 23)).alloc (.cells #[.int .i64 m.txn, .int .i64 m.root, .int .i64 m.free, .int .i64 m.pages] 3))).cell? ⟨w.heap.size, 0, none⟩ = some (.int .i64 m.txn) := by clear hcs; go_simp
  have hbw : Below w.heap.size w ((w.alloc (.cells #[.int .i64 m.txn, .int .i64 m.root, .int .i64 m.free, .int .i64 m.pages] 23)).alloc (.cells #[.int .i64 m.txn, .int .i64 m.root, .int .i64 m.free, .int .i64 m.pages] 3)) := ((Below.refl _ w).alloc (Nat.le_refl _) _).alloc (by simp) _
  have hsz : ((w.alloc (.cells #[.int .i64 m.txn, .int .i64 m.root, .int .i64 m.free, .int .i64 m.pages] 23)).alloc (.cells #[.int .i64 m.txn, .int .i64 m.root, .int .i64 m.free, .int .i64 m.pages] 3)).heap.size = w.heap.size + 2 := by simp
  generalize ((w.alloc (.cells #[.int .i64 m.txn, .int .i64 m.root, .int .i64 m.free, .int .i64 m.pages] 23)).alloc (.cells #[.int .i64 m.txn, .int .i64 m.root, .int .i64 m.free, .int .i64 m.pages] 3)) = W0 at *
  have HC0 := Lib.hid hcs
  have HT0 := Lib.hid ht0
  have HB0 := Lib.hid hbw
  have HZ0 : Hid (w.heap.size + 2 ≤ W0.heap.size) := Lib.hid (by omega)
  clear hcs ht0 hbw hsz HCL
  go_loopw [4, 19] (fun bd i wr => ∃ k : Nat, k ≤ 4 ∧ i = .int .i64 k ∧ bd = .string (metaS (m.l.take k)) ∧ Hid (Below W0.heap.size W0 wr)) (fun _ i _ => 4 - (intOf i).toNat)
  case atStart => exact ⟨0, Nat.zero_le _, rfl, rfl, Lib.hid (Below.refl _ _)⟩
  case round =>
    obtain ⟨k, hk, rfl, rfl, hrel⟩ := hrel
    have hlen : (m.l.take k).length = k := by rw [List.length_take]; simp [Mt.l]; omega
    by_cases hk4 : k < 4
    · have hcx := (hrel.out.cell (p := ⟨w.heap.size + 1, k, none⟩) (by have := HZ0.out; show w.heap.size + 1 < _; omega)).trans (HC0.out k hk4)
      have HFX := Lib.hid (fun w => num_fix (HL.el m.l k) 6 w (by have := hok.out k hk4; omega) (by omega) (by omega) (by have := hok.out k hk4; omega))
      have HTK : Hid (metaS (m.l.take k) ++ fixS (HL.el m.l k) 6 = metaS (m.l.take (k + 1))) := Lib.hid (by
        rw [metaS_snoc, List.take_succ_eq_append_getElem (show k < m.l.length by simp [Mt.l]; omega)]
        simp [HL.el, List.getD, show k < m.l.length by simp [Mt.l]; omega])
      have hs1 : (metaS (m.l.take k)).size ≤ 24 := by rw [metaS_size, hlen]; omega
      have hs2 : (fixS (HL.el m.l k) 6).size = 6 := fixS_size _ _
      have hbig : ¬ 9223372036854775807 < (metaS (m.l.take k)).size + (fixS (HL.el m.l k) 6).size := by omega
      have HB1 : Hid (Below W0.heap.size W0 wr) := hrel
      clear hs2 hlen hrel
      generalize HL.el m.l k = v at *
      go_wp2_with fail
      refine (HFX.out _).mono ?_
      rintro e w1 ⟨rfl, hb1⟩
      have HB2 := Lib.hid (HB1.out.trans (hb1.mono HB1.out.size))
      clear hb1
      go_wp2
      rw [HTK.out]
      go_roundw
      case rel => exact ⟨k + 1, by omega, by go_num, rfl, HB2⟩
      case measure => simp [intOf]; omega
    · obtain rfl : k = 4 := by omega
      have HML : Hid (metaS (m.l.take 4) = metaS m.l) := Lib.hid rfl
      rw [HML.out]
      have ht := (hrel.out.cell (p := ⟨w.heap.size, 0, none⟩) (by have := HZ0.out; show w.heap.size < _; omega)).trans HT0.out
      have HB1 : Hid (Below W0.heap.size W0 wr) := hrel
      clear hrel hlen
      go_wp2_with fail
      refine (HPL.out _).mono ?_
      rintro e w1 ⟨rfl, rfl⟩
      go_wp2_with fail
      refine (HSE.out _).mono ?_
      rintro e w2 ⟨rfl, hb2⟩
      go_wp2
      go_ret2
      exact ⟨rfl, HB0.out.trans ((HB1.out.trans (hb2.mono HB1.out.size)).mono HB0.out.size)⟩
end Go.Proofs.YtpoiopjggmhnjaaDoor
