/- arboretumlaw5.MetaTells: the walk. -/
import Derived.Test.YtpoiopjggmhnjaaDoorB1
import Derived.Test.YtpoiopjggmhnjaaDoorLater
import Derived.Deep.DeepCutAuto
import Derived.Deep.CutBlock
namespace Go.Proofs.YtpoiopjggmhnjaaDoor
open Go.RowKit

theorem u8_xor (a z : Nat) (ha : a < 256) (hz : z < 256) : bits .xor .u8 (a : Int) (z : Int) = ((a ^^^ z : Nat) : Int) := by
  have e1 : (BitVec.ofInt 8 (a : Int)).toNat = a := by rw [BitVec.toNat_ofInt]; omega
  have e2 : (BitVec.ofInt 8 (z : Int)).toNat = z := by rw [BitVec.toNat_ofInt]; omega
  have key : (BitVec.ofInt 8 (a : Int) ^^^ BitVec.ofInt 8 (z : Int)).toNat = a ^^^ z := by rw [BitVec.toNat_xor, e1, e2]
  show IntKind.u8.wrap ((BitVec.ofInt 8 (a : Int) ^^^ BitVec.ofInt 8 (z : Int)).toNat : Nat) = _
  rw [key, IntKind.wrap_u8]
  have : a ^^^ z < 2 ^ 8 := Nat.xor_lt_two_pow ha hz
  omega

theorem RDv.less {rb base base' : Nat} {lv wv : Value} {L : List ByteArray} {Ws : List Wr} {w : World} (h : RDv rb base lv wv L Ws w) (hb : base' ≤ base) : RDv rb base' lv wv L Ws w :=
  ⟨h.c0, h.c1, h.c2, h.c3, h.c4, h.f2, h.f3, owns_low h.lo hb, owns_low h.wo hb, h.ln, h.wn, Nat.le_trans hb h.bs, Nat.le_trans hb h.bb⟩

/-- The law's two boxes. -/
structure Bx2 (b : Nat) (a0 a1 a2 a3 e0 e1 e2 e3 : Int) (V : World) : Prop where
  m0 : V.cell? ⟨b, 0, none⟩ = some (.int .i64 a0)
  m1 : V.cell? ⟨b, 1, none⟩ = some (.int .i64 a1)
  m2 : V.cell? ⟨b, 2, none⟩ = some (.int .i64 a2)
  m3 : V.cell? ⟨b, 3, none⟩ = some (.int .i64 a3)
  n0 : V.cell? ⟨b + 1, 0, none⟩ = some (.int .i64 e0)
  n1 : V.cell? ⟨b + 1, 1, none⟩ = some (.int .i64 e1)
  n2 : V.cell? ⟨b + 1, 2, none⟩ = some (.int .i64 e2)
  n3 : V.cell? ⟨b + 1, 3, none⟩ = some (.int .i64 e3)
theorem Bx2.below {b : Nat} {a0 a1 a2 a3 e0 e1 e2 e3 : Int} {W V : World} (h : Bx2 b a0 a1 a2 a3 e0 e1 e2 e3 W) (hb : Below (b + 2) W V) : Bx2 b a0 a1 a2 a3 e0 e1 e2 e3 V := by
  have x : ∀ o, V.cell? ⟨b, o, none⟩ = W.cell? ⟨b, o, none⟩ := fun o => hb.cell (p := ⟨b, o, none⟩) (by show b < b + 2; omega)
  have y : ∀ o, V.cell? ⟨b + 1, o, none⟩ = W.cell? ⟨b + 1, o, none⟩ := fun o => hb.cell (p := ⟨b + 1, o, none⟩) (by show b + 1 < b + 2; omega)
  exact ⟨(x 0).trans h.m0, (x 1).trans h.m1, (x 2).trans h.m2, (x 3).trans h.m3, (y 0).trans h.n0, (y 1).trans h.n1, (y 2).trans h.n2, (y 3).trans h.n3⟩

set_option maxHeartbeats 2000000 in
set_option maxRecDepth 100000 in
theorem tells_main (a0 a1 a2 a3 e0 e1 e2 e3 page at' by' which : Int) (bs : ByteArray) (w : World) (hb : bs.size ≤ 3000)
    (h0 : a0 ≤ 9223372036854775807) (h1 : a1 ≤ 9223372036854775807) (h2 : a2 ≤ 9223372036854775807) (h3 : a3 ≤ 9223372036854775807) (g0 : e0 ≤ 9223372036854775807) (g1 : e1 ≤ 9223372036854775807) (g2 : e2 ≤ 9223372036854775807) (g3 : e3 ≤ 9223372036854775807) :
    Calls Tryd.prog 3 #[.agg #[.int .i64 a0, .int .i64 a1, .int .i64 a2, .int .i64 a3], .agg #[.int .i64 e0, .int .i64 e1, .int .i64 e2, .int .i64 e3], .int .i64 page, .string bs, .int .i64 at', .int .i64 by', .int .i64 which] w fun e w' => e = .returned (.bool true) ∧ Below w.heap.size w w' := by
  obtain ⟨S, c', hP⟩ := put_both a0 a1 a2 a3 h0 h1 h2 h3
  obtain ⟨S2, c2', hP2⟩ := put_both e0 e1 e2 e3 g0 g1 g2 g3
  have HPa := Lib.hid hP.1
  have HPb := Lib.hid hP.2.1
  have HPS := Lib.hid hP.2.2.2
  have HP2 := Lib.hid hP2
  have HP2b := Lib.hid hP2.2.1
  have HA := Lib.hid (fun w => malive_true w)
  have HPL1 := Lib.hid (fun w => meta_place_any a0 w)
  have HPL2 := Lib.hid (fun w => ref_place a0 w)
  have HPL3 := Lib.hid (fun w => ref_place e0 w)
  have hbI : ¬ (3000 : Int) < (bs.size : Int) := by omega
  have hW2 : Bx2 w.heap.size a0 a1 a2 a3 e0 e1 e2 e3 ((w.alloc (.cells #[.int .i64 a0, .int .i64 a1, .int .i64 a2, .int .i64 a3] 23)).alloc (.cells #[.int .i64 e0, .int .i64 e1, .int .i64 e2, .int .i64 e3] 23)) := by
    refine ⟨?_, ?_, ?_, ?_, ?_, ?_, ?_, ?_⟩ <;> go_simp
  have hBW : Below w.heap.size w ((w.alloc (.cells #[.int .i64 a0, .int .i64 a1, .int .i64 a2, .int .i64 a3] 23)).alloc (.cells #[.int .i64 e0, .int .i64 e1, .int .i64 e2, .int .i64 e3] 23)) := ((Below.refl _ w).alloc (Nat.le_refl _) _).alloc (by simp) _
  have hsz : ((w.alloc (.cells #[.int .i64 a0, .int .i64 a1, .int .i64 a2, .int .i64 a3] 23)).alloc (.cells #[.int .i64 e0, .int .i64 e1, .int .i64 e2, .int .i64 e3] 23)).heap.size = w.heap.size + 2 := by simp
  have HW2 := Lib.hid hW2
  have HBW := Lib.hid hBW
  have HSZ := Lib.hid hsz
  clear hP hP2 hW2 hBW hsz h0 h1 h2 h3 g0 g1 g2 g3
  go_enter Tryd.func3, Tryd.ntmps3
  go_wp2_with fail
  generalize ((w.alloc (.cells #[.int .i64 a0, .int .i64 a1, .int .i64 a2, .int .i64 a3] 23)).alloc (.cells #[.int .i64 e0, .int .i64 e1, .int .i64 e2, .int .i64 e3] 23)) = W2 at *
  have HX0 : Hid (Below (w.heap.size + 2) W2 W2) := Lib.hid (Below.refl _ _)
  with_reducible refine (HPa.out _).mono ?_
  rintro e w1 ⟨rfl, hb1⟩
  have HX1 : Hid (Below (w.heap.size + 2) W2 w1) := Lib.hid (hb1.mono (by rw [HSZ.out]; exact Nat.le_refl _))
  have bx := HW2.out.below HX1.out
  have m0 := bx.m0
  have m1 := bx.m1
  have m2 := bx.m2
  have m3 := bx.m3
  clear hb1 bx HX0
  go_wp2_with fail
  with_reducible refine (HPb.out _).mono ?_
  rintro e w2 ⟨rfl, hb2⟩
  have HX2 : Hid (Below (w.heap.size + 2) W2 w2) := Lib.hid (HX1.out.trans (hb2.mono (by have := HX1.out.size; rw [HSZ.out] at this; exact this)))
  clear m0 m1 m2 m3 hb2 HX1
  have hl0 : w.heap.size < w2.heap.size := by have := HX2.out.size; have := HSZ.out; omega
  have y0 : ∀ q : Later w2, q.1.cell? ⟨w.heap.size, 0, none⟩ = some (.int .i64 a0) := fun q => (q.2.cell (p := ⟨w.heap.size, 0, none⟩) hl0).trans (HW2.out.below HX2.out).m0
  have q1 : ((a0 % 2) != (a0 % 2)) = false := by simp
  generalize hpl : a0 % 2 = pl at *
  clear hpl
  have hs1 : (S.toList == S.toList) = true := by simp
  have hs2 : (S.toList != S.toList) = false := by simp
  have hs3 : (c' != c') = false := by simp
  go_upto_region 5 with fail
  refine wp_region_later (by kernel_rfl) (by kernel_rfl) ?_
  repeat (go_big_quiet_step (first | (go_at_call 9; exact Calls.later_same (HPL1.out _)) | (go_at_call 10; exact Calls.later_same (HPL2.out _))))
  refine wpQuiet_nil ?_
  intro w3 hw'
  obtain ⟨⟨wq, hq⟩, hw''⟩ := hw'
  have hw3 : w3 = wq := hw''
  clear hw''
  subst hw3
  have HX3 : Hid (Below (w.heap.size + 2) W2 w3) := Lib.hid (HX2.out.trans (hq.mono (by have := HX2.out.size; rw [HSZ.out] at this; exact this)))
  clear hq y0 q1 hs1 hs2 hs3 HX2 hl0 HPL1 HPL2
  have hb1 := i64_and1 which
  obtain ⟨v1, hv1⟩ : ∃ v1, v1 = which % 2 := ⟨_, rfl⟩
  rw [← hv1] at hb1
  have HV1 := Lib.hid hv1
  clear hv1
  go_upto_region 7 with fail
  go_cut [75] (fun s75 wx => ∃ z75 : Bool, s75 = .bool z75 ∧ Hid (z75 = true → S.size = 256) ∧ w3 = wx)
  case first =>
    by_cases hv0 : v1 = 0
    · have b0 : (v1 == 0) = true := by rw [hv0]; rfl
      have HV0 := Lib.hid hv0
      clear hv0
      by_cases hS : S.size = 256
      · have b1 : ((S.size : Int) == 256) = true := by rw [hS]; rfl
        have HS := Lib.hid hS
        clear hS
        go_wp2
        go_meet
        exact ⟨true, rfl, Lib.hid (fun _ => HS.out), rfl⟩
      · have b1 : ((S.size : Int) == 256) = false := by rw [beq_eq_false_iff_ne]; omega
        have HS := Lib.hid hS
        clear hS
        go_wp2
        go_meet
        exact ⟨false, rfl, Lib.hid (fun h => by cases h), rfl⟩
    · have b0 : (v1 == 0) = false := by rw [beq_eq_false_iff_ne]; exact hv0
      have HV0 := Lib.hid hv0
      clear hv0
      go_wp2
      go_meet
      exact ⟨false, rfl, Lib.hid (fun h => by cases h), rfl⟩
  case rest =>
  obtain ⟨z75, rfl, HZ75, rfl⟩ := hcut
  clear hb1
  go_upto_if 75 with fail
  go_cut [3] (fun s3 wx => ∃ bz : ByteArray, s3 = .string bz ∧ Hid (bz.size ≤ 3000 ∧ Below (w.heap.size + 2) W2 wx))
  case first =>
    cases z75 with
    | true =>
      have hS := HZ75.out rfl
      obtain ⟨k, hk⟩ : ∃ k : Nat, at' % 256 = k := ⟨(at' % 256).toNat, by omega⟩
      obtain ⟨y, hyy⟩ : ∃ y : Nat, by' % 256 = y := ⟨(by' % 256).toNat, by omega⟩
      have hk2 : k < 256 := by omega
      have hy2 : y < 256 := by omega
      have HK := Lib.hid hk
      have HYY := Lib.hid hyy
      clear hk hyy
      have hsl : S.data.toList.length = S.size := by simp
      obtain ⟨L, hL⟩ : ∃ L : List UInt8, S.data.toList.set k (UInt8.ofNat (byteAt S k ^^^ y)) = L := ⟨_, rfl⟩
      have HLL : Hid (L.length = S.size) := Lib.hid (by rw [← hL, List.length_set, hsl])
      obtain ⟨Z, hZ⟩ : ∃ Z : ByteArray, (⟨L.toArray⟩ : ByteArray) = Z := ⟨_, rfl⟩
      have HZS : Hid (Z.size = 256) := Lib.hid (by rw [← hZ]; show L.toArray.size = 256; rw [List.size_toArray, HLL.out, hS])
      have hbits : bits BinOp.and IntKind.i64 at' 255 = (k : Int) := by rw [i64_and255, HK.out]
      have hconv := run_bytes_of_string (P := Tryd.prog) w3 9 29 5 S Tryd.underlying9 Tryd.underlying29 Tryd.underlying5
      have hcap := grownCap_ge w3 S.size 0 5
      generalize grownCap w3 S.size 0 5 = cap at hconv hcap
      have hrow : ∀ j, j < 256 → (bytesRow S cap)[j]? = some (.int .u8 (byteAt S j : Nat)) := fun j hj => by
        have hjs : j < S.data.size := by have : S.data.size = S.size := rfl; omega
        rw [bytesRow_at S cap j hjs]
        have e := byteAt_get S j (by omega)
        exact congrArg (fun z => some (Value.int .u8 z)) e
      have hrs : 256 ≤ (bytesRow S cap).size := by unfold bytesRow; simp; have : S.data.size = S.size := rfl; omega
      generalize bytesRow S cap = C at *
      obtain ⟨W6, hW6⟩ : ∃ W6, w3.drew.alloc (.cells C 5 (C.size, C.size + 1)) = W6 := ⟨_, rfl⟩
      rw [hW6] at hconv
      have hnew : W6.heap[w3.heap.size]? = some (.cells C 5 (C.size, C.size + 1)) := by
        rw [← hW6]
        have e := heap_alloc_new w3.drew (.cells C 5 (C.size, C.size + 1))
        have e2 : w3.drew.heap.size = w3.heap.size := by simp
        rw [e2] at e
        exact e
      have hz3 : w.heap.size + 2 ≤ w3.heap.size := by have := HX3.out.size; have := HSZ.out; omega
      have HB6 : Hid (Below (w.heap.size + 2) W2 W6) := Lib.hid (by rw [← hW6]; exact (HX3.out.drew).alloc (by simp; omega) _)
      have hcell : ∀ j, j < 256 → W6.cell? ⟨w3.heap.size, j, none⟩ = some (.int .u8 (byteAt S j : Nat)) := fun j hj => by rw [cell_of_row _ _ _ _ _ _ hnew]; exact hrow j hj
      have hck := hcell k hk2
      have hfk : W6.frozen? ⟨w3.heap.size, k, none⟩ = false := by
        unfold World.frozen?
        rw [hnew]
        simp
        omega
      have HCV : Hid (∀ w' : World, (∀ j (hj : j < L.length), w'.cell? ((⟨w3.heap.size, 0, none⟩ : Addr).add j) = some (.int .u8 (L[j].toNat : Int))) → (convert 29 9 (.slice (some ⟨w3.heap.size, 0, none⟩) S.size cap)).run Tryd.prog w' = .ok (.string Z) w') := Lib.hid (fun w' hw' => by
        have e := run_convert_bytes_back (P := Tryd.prog) w' 29 9 5 ⟨w3.heap.size, 0, none⟩ cap L Tryd.underlying29 Tryd.underlying5 Tryd.underlying9 hw'
        rw [HLL.out, hZ] at e
        exact e)
      have hcel : ∀ z : Nat, z = byteAt S k ^^^ y → ∀ j (hj : j < L.length), (W6.setCell ⟨w3.heap.size, k, none⟩ (.int .u8 (z : Int))).cell? ((⟨w3.heap.size, 0, none⟩ : Addr).add j) = some (.int .u8 (L[j].toNat : Int)) := fun z hz j hj => by
        have hj2 : j < 256 := by rw [HLL.out, hS] at hj; exact hj
        have hLj : L[j] = (S.data.toList.set k (UInt8.ofNat (byteAt S k ^^^ y)))[j]'(by rw [List.length_set, hsl]; omega) := by subst hL; rfl
        rw [hLj, add_at0]
        by_cases e : j = k
        · subst e
          rw [cell_set_same _ _ _ _ hck, List.getElem_set_self]
          have h8 : byteAt S j ^^^ y < 2 ^ 8 := Nat.xor_lt_two_pow (byteAt_lt S j) hy2
          rw [hz]
          generalize byteAt S j ^^^ y = q at *
          simp
          omega
        · rw [World.cell?_setCell_other _ _ _ _ (by intro h; injection h with _ h _; omega), hcell j (by omega), List.getElem_set_ne (fun h => e h.symm)]
          have eb := byteAt_get S j (by omega)
          exact congrArg (fun z => some (Value.int .u8 z)) eb.symm
      have hcelq := hcel _ rfl
      have hback := HCV.out _ hcelq
      clear hcelq hcel
      have HBS : Hid (Below (w.heap.size + 2) W2 (W6.setCell ⟨w3.heap.size, k, none⟩ (.int .u8 ((byteAt S k ^^^ y : Nat) : Int)))) := Lib.hid (HB6.out.setCell (p := ⟨w3.heap.size, k, none⟩) hz3 _)
      clear hW6 hnew hcell hrs hL hZ
      have hxor : bits BinOp.xor IntKind.u8 ((byteAt S k : Nat) : Int) (by' % 256) = ((byteAt S k ^^^ y : Nat) : Int) := by rw [HYY.out]; exact u8_xor _ _ (byteAt_lt S k) hy2
      clear hrow hsl
      have hk0 : (0 : Int) ≤ (k : Int) := by omega
      have hks : (k : Int) < (S.size : Int) := by omega
      clear hS
      generalize byteAt S k ^^^ y = q at *
      go_wp2
      go_meet
      case rel => exact ⟨Z, rfl, Lib.hid ⟨by have := HZS.out; omega, HBS.out⟩⟩
    | false =>
      have HB3 : Hid (bs.size ≤ 3000) := Lib.hid hb
      go_wp2
      go_meet
      case rel => exact ⟨bs, rfl, Lib.hid ⟨HB3.out, HX3.out⟩⟩
  case rest =>
    obtain ⟨bz, rfl, hcz⟩ := hcut
    obtain ⟨wz, hwz⟩ : ∃ wz, wz = wc := ⟨_, rfl⟩
    subst hwz
    obtain ⟨t, r, f, p, g, hG⟩ := get_both page bz
    have HGa := Lib.hid hG.1
    have HGb := Lib.hid hG.2.1
    have HXZ := Lib.hid hcz.out.2
    have HBZ := Lib.hid hcz.out.1
    have hz3 : w.heap.size + 2 ≤ wz.heap.size := by have := HXZ.out.size; have := HSZ.out; omega
    clear hG hcz HX3 HPa HPb HPS HZ75 HV1
    go_wp2_with fail
    with_reducible refine (HGa.out _).mono ?_
    rintro e w5 ⟨rfl, hb5⟩
    have HX5 : Hid (Below (w.heap.size + 2) W2 w5) := Lib.hid (HXZ.out.trans (hb5.mono hz3))
    have h5s := hb5.size
    have HCX : Hid (∀ V, Below (w5.heap.size + 1) (w5.alloc (.cells #[.int .i64 t, .int .i64 r, .int .i64 f, .int .i64 p] 23)) V → V.cell? ⟨w5.heap.size, 0, none⟩ = some (.int .i64 t) ∧ V.cell? ⟨w5.heap.size, 1, none⟩ = some (.int .i64 r) ∧ V.cell? ⟨w5.heap.size, 2, none⟩ = some (.int .i64 f) ∧ V.cell? ⟨w5.heap.size, 3, none⟩ = some (.int .i64 p)) := Lib.hid (fun V hV => by
      refine ⟨(hV.cell (p := ⟨w5.heap.size, 0, none⟩) (by simp)).trans (by go_simp), (hV.cell (p := ⟨w5.heap.size, 1, none⟩) (by simp)).trans (by go_simp), (hV.cell (p := ⟨w5.heap.size, 2, none⟩) (by simp)).trans (by go_simp), (hV.cell (p := ⟨w5.heap.size, 3, none⟩) (by simp)).trans (by go_simp)⟩)
    clear hb5 HGa
    go_wp2_with fail
    with_reducible refine (HGb.out _).mono ?_
    rintro e w6 ⟨rfl, hb6⟩
    obtain ⟨x0, x1, x2, x3⟩ := HCX.out w6 (by simpa using hb6)
    have HX6 : Hid (Below (w.heap.size + 2) W2 w6) := Lib.hid ((HX5.out.alloc (by omega) _).trans (hb6.mono (by simp; omega)))
    have h6s := hb6.size
    simp only [World.size_alloc] at h6s
    have hlt6 : w5.heap.size < w6.heap.size := by omega
    clear hb6 HGb HCX
    have HX7 : Hid (Below (w.heap.size + 2) W2 (w6.alloc (.cells #[.int .i64 t, .int .i64 r, .int .i64 f, .int .i64 p] 23))) := Lib.hid (HX6.out.alloc (by omega) _)
    go_wp2_with fail
    generalize w6.alloc (.cells #[.int .i64 t, .int .i64 r, .int .i64 f, .int .i64 p] 23) = W7 at *
    clear x0 x1 x2 x3 HX6 h5s h6s hlt6 HX5 hz3
    with_reducible refine (dv_new 2 _ (by omega) (by omega)).mono ?_
    rintro e w8 ⟨rfl, hD, hb8⟩
    have HD8 := Lib.hid hD
    have HB8 := Lib.hid hb8
    clear hD hb8
    go_wp2_with fail
    with_reducible refine (rdv_new _).mono ?_
    rintro e w9 ⟨rfl, hR, hb9⟩
    have hs8 := HB8.out.size
    have hD9 := HD8.out.keep (Fr.of_all (S := fun _ => False) hb9) (fun _ _ h => h)
    have hR9 := hR.less hs8
    have hgd := fun q (hq : q ≤ 2) => ts_grow q hD9 hR9 (fun j hj e => by
      have h1 := HD8.out.lt j hj
      omega) hq
    have HGR := Lib.hid hgd
    have HB9 : Hid (Below W7.heap.size W7 w9) := Lib.hid (HB8.out.trans (hb9.mono hs8))
    have HZ7 : Hid (w.heap.size + 2 ≤ W7.heap.size) := Lib.hid (by have := HX7.out.size; have := HSZ.out; omega)
    clear hD9 hR9 hgd hR hb9 HD8 HB8
    obtain ⟨q, hq, hq2⟩ : ∃ q : Nat, wrap64 (2 - bits BinOp.and IntKind.i64 (which / 2) 1) = (q : Int) ∧ (q = 1 ∨ q = 2) := by
      rw [i64_and1]
      refine ⟨(2 - which / 2 % 2).toNat, ?_, by omega⟩
      unfold wrap64
      omega
    obtain ⟨k, hk⟩ : ∃ k : Nat, bits BinOp.and IntKind.i64 (which / 4) 1 = (k : Int) := by
      rw [i64_and1]
      exact ⟨(which / 4 % 2).toNat, by omega⟩
    obtain ⟨kk, hkk⟩ : ∃ kk : Nat, e0 % 2 = (kk : Int) := ⟨(e0 % 2).toNat, by omega⟩
    rw [hkk] at HPL3
    have HKK := Lib.hid hkk
    have HQ := Lib.hid hq2
    clear hkk hq2
    go_wp2_with fail
    with_reducible refine (HGR.out q (by have := HQ.out; omega)).mono ?_
    rintro e w10 ⟨rfl, hb10, hr10⟩
    have HR10 := Lib.hid hr10
    clear hr10 hb10 HGR
    go_wp2_with fail
    with_reducible refine HR10.out.mono ?_
    rintro e w11 ⟨rfl, hT, hb11⟩
    have HT11 := Lib.hid hT
    have HB11 : Hid (Below W7.heap.size W7 w11) := Lib.hid (HB9.out.trans hb11)
    clear hT hb11 HR10 HB9 hq hs8
    go_upto_if 133 with fail
    go_cut [] (fun wx => Hid (TSI W7.heap.size W7.heap.size w8.heap.size q 1 wx ∧ Below W7.heap.size W7 wx))
    case first =>
      by_cases hz : bz.size = 256
      · have hzb : ((bz.size : Int) == 256) = true := by rw [hz]; rfl
        have HW := Lib.hid (ts_write k bz HT11.out hz (by omega))
        clear hz
        go_wp2_with fail
        with_reducible refine HW.out.mono ?_
        rintro e w12 ⟨c, rfl, _, hr⟩
        have HR := Lib.hid hr
        clear hr HW
        go_wp2_with fail
        with_reducible refine HR.out.mono ?_
        rintro e w13 ⟨rfl, hT, hb⟩
        have HE : Hid (TSI W7.heap.size W7.heap.size w8.heap.size q 1 w13 ∧ Below W7.heap.size W7 w13) := Lib.hid ⟨hT, HB11.out.trans hb⟩
        clear hT hb HR
        go_wp2
        go_meet
        case rel => exact HE
      · have hzb : ((bz.size : Int) == 256) = false := by rw [beq_eq_false_iff_ne]; omega
        clear hz
        go_wp2
        go_meet
        case rel => exact Lib.hid ⟨HT11.out.more (by omega), HB11.out⟩
    case rest =>
    obtain ⟨w14, hw14⟩ : ∃ w14, w14 = wc := ⟨_, rfl⟩
    subst hw14
    have HT14 := Lib.hid hcut.out.1
    have HB14 := Lib.hid hcut.out.2
    have HX14 : Hid (Below (w.heap.size + 2) W2 w14) := Lib.hid (HX7.out.trans (HB14.out.mono HZ7.out))
    have bx := HW2.out.below HX14.out
    have n0 := bx.n0
    have n1 := bx.n1
    have n2 := bx.n2
    have n3 := bx.n3
    clear hcut HT11 HB11 bx hk
    go_wp2_with fail
    with_reducible refine (HP2b.out _).mono ?_
    rintro e w15 ⟨rfl, hb15⟩
    have HT15 := Lib.hid (HT14.out.below hb15)
    have HB15 : Hid (Below W7.heap.size W7 w15) := Lib.hid (HB14.out.trans (hb15.mono HB14.out.size))
    have HX15 : Hid (Below (w.heap.size + 2) W2 w15) := Lib.hid (HX7.out.trans (HB15.out.mono HZ7.out))
    have bx := HW2.out.below HX15.out
    have HMW := Lib.hid (ts_mwrite e0 e1 e2 e3 S2 c2' kk HP2.out HKK.out HT15.out (by omega))
    clear n0 n1 n2 n3 hb15 HT14 HB14 HX14
    have n0 := bx.n0
    have n1 := bx.n1
    have n2 := bx.n2
    have n3 := bx.n3
    clear bx
    go_wp2_with fail
    with_reducible refine HMW.out.mono ?_
    rintro e w16 ⟨z, rfl, hb16, hbad, hgood⟩
    have HB16 : Hid (Below W7.heap.size W7 w16) := Lib.hid (HB15.out.trans hb16)
    have HX16 : Hid (Below (w.heap.size + 2) W2 w16) := Lib.hid (HX7.out.trans (HB16.out.mono HZ7.out))
    have HBAD := Lib.hid hbad
    have HGOOD := Lib.hid hgood
    have HBS : Hid (∀ V, Below W7.heap.size w15 V → Below W7.heap.size W7 V) := Lib.hid (fun V h => HB15.out.trans h)
    clear n0 n1 n2 n3 hb16 hbad hgood HMW HT15 HX15
    go_upto_if 155 with fail
    go_cut [29] (fun s29 wx => s29 = .int .i64 z ∧ Hid (TSI W7.heap.size W7.heap.size w8.heap.size q 2 wx ∧ Below W7.heap.size W7 wx))
    case first =>
      by_cases hc : c2' = 0
      · have hcb : (c2' == 0) = true := by rw [hc]; rfl
        have HG := Lib.hid (HGOOD.out hc)
        have n0 := (HW2.out.below HX16.out).n0
        clear hc
        go_wp2_with fail
        with_reducible refine (HPL3.out _).mono ?_
        rintro e w17 ⟨rfl, hw17⟩
        subst hw17
        go_wp2_with fail
        with_reducible refine HG.out.mono ?_
        rintro e w18 ⟨rfl, hT, hb⟩
        have HE : Hid (TSI W7.heap.size W7.heap.size w8.heap.size q 2 w18 ∧ Below W7.heap.size W7 w18) := Lib.hid ⟨hT, HBS.out _ hb⟩
        clear hT hb HG n0
        go_wp2
        go_meet
        case rel => exact ⟨rfl, HE⟩
      · have hcb : (c2' == 0) = false := by rw [beq_eq_false_iff_ne]; exact hc
        obtain ⟨hz, hT⟩ := HBAD.out hc
        have HE : Hid (TSI W7.heap.size W7.heap.size w8.heap.size q 2 w16 ∧ Below W7.heap.size W7 w16) := Lib.hid ⟨hT, HB16.out⟩
        have HZZ := Lib.hid hz
        clear hz hT hc
        go_wp2
        go_meet
        case rel => exact ⟨by rw [HZZ.out], HE⟩
    case rest =>
    obtain ⟨rfl, HCT⟩ := hcut
    obtain ⟨w19, hw19⟩ : ∃ w19, w19 = wc := ⟨_, rfl⟩
    subst hw19
    obtain ⟨m, x, hch1, hch2⟩ := ts_choose HCT.out.1 HQ.out (by omega)
    have HC1 := Lib.hid (hch1 _ (Below.refl _ _))
    have HC2 := Lib.hid hch2
    have HB19 := Lib.hid HCT.out.2
    have hs7 := HCT.out.2.size
    obtain ⟨ma, mb, mc, md⟩ := m
    unfold mtv at HC1 HC2
    simp only at HC1 HC2
    clear hch1 hch2 HCT HBAD HGOOD HBS HB16 HX16
    go_wp2_with fail
    with_reducible refine HC1.out.mono ?_
    rintro e w20 ⟨rfl, hb20⟩
    have HB20 := Lib.hid hb20
    have h20 := hb20.size
    have HCX : Hid (∀ V, Below (w20.heap.size + 1) (w20.alloc (.cells #[.int .i64 ma, .int .i64 mb, .int .i64 mc, .int .i64 md] 23)) V → V.cell? ⟨w20.heap.size, 0, none⟩ = some (.int .i64 ma) ∧ V.cell? ⟨w20.heap.size, 1, none⟩ = some (.int .i64 mb) ∧ V.cell? ⟨w20.heap.size, 2, none⟩ = some (.int .i64 mc) ∧ V.cell? ⟨w20.heap.size, 3, none⟩ = some (.int .i64 md)) := Lib.hid (fun V hV => by
      refine ⟨(hV.cell (p := ⟨w20.heap.size, 0, none⟩) (by simp)).trans (by go_simp), (hV.cell (p := ⟨w20.heap.size, 1, none⟩) (by simp)).trans (by go_simp), (hV.cell (p := ⟨w20.heap.size, 2, none⟩) (by simp)).trans (by go_simp), (hV.cell (p := ⟨w20.heap.size, 3, none⟩) (by simp)).trans (by go_simp)⟩)
    have HC2' := Lib.hid (HC2.out (w20.alloc (.cells #[.int .i64 ma, .int .i64 mb, .int .i64 mc, .int .i64 md] 23)) (hb20.alloc h20 _))
    clear hb20 HC1 HC2
    go_wp2_with fail
    with_reducible refine HC2'.out.mono ?_
    rintro e w21 ⟨rfl, hb21⟩
    have HB21 : Hid (Below (w20.heap.size + 1) (w20.alloc (.cells #[.int .i64 ma, .int .i64 mb, .int .i64 mc, .int .i64 md] 23)) w21) := Lib.hid (by simpa using hb21)
    have h21 := hb21.size
    simp only [World.size_alloc] at h21
    have HCY : Hid (∀ V, Below (w21.heap.size + 1) (w21.alloc (.cells #[.int .i64 ma, .int .i64 mb, .int .i64 mc, .int .i64 md] 23)) V → V.cell? ⟨w21.heap.size, 0, none⟩ = some (.int .i64 ma) ∧ V.cell? ⟨w21.heap.size, 1, none⟩ = some (.int .i64 mb) ∧ V.cell? ⟨w21.heap.size, 2, none⟩ = some (.int .i64 mc) ∧ V.cell? ⟨w21.heap.size, 3, none⟩ = some (.int .i64 md)) := Lib.hid (fun V hV => by
      refine ⟨(hV.cell (p := ⟨w21.heap.size, 0, none⟩) (by simp)).trans (by go_simp), (hV.cell (p := ⟨w21.heap.size, 1, none⟩) (by simp)).trans (by go_simp), (hV.cell (p := ⟨w21.heap.size, 2, none⟩) (by simp)).trans (by go_simp), (hV.cell (p := ⟨w21.heap.size, 3, none⟩) (by simp)).trans (by go_simp)⟩)
    clear hb21 HC2'
    go_wp2_with fail
    with_reducible refine (nil_choose _).mono ?_
    rintro e w22 ⟨rfl, hb22⟩
    have HB22 : Hid (Below (w21.heap.size + 1) (w21.alloc (.cells #[.int .i64 ma, .int .i64 mb, .int .i64 mc, .int .i64 md] 23)) w22) := Lib.hid (by simpa using hb22)
    have h22 := hb22.size
    simp only [World.size_alloc] at h22
    clear hb22
    unfold mtv mt0
    simp only
    go_wp2_with fail
    with_reducible refine (HA.out _).mono ?_
    rintro e w23 ⟨rfl, hb23⟩
    have HB23 : Hid (Below (w21.heap.size + 1) (w21.alloc (.cells #[.int .i64 ma, .int .i64 mb, .int .i64 mc, .int .i64 md] 23)) w23) := Lib.hid ((HB22.out.alloc (by omega) _).trans (hb23.mono (by simp; omega)))
    have HBE : Hid (Below w.heap.size w w23) := Lib.hid (by
      have b1 : Below (w.heap.size + 2) W2 (w20.alloc (.cells #[.int .i64 ma, .int .i64 mb, .int .i64 mc, .int .i64 md] 23)) := (HX7.out.trans ((HB19.out.trans (HB20.out.mono hs7)).mono HZ7.out)).alloc (by have := HZ7.out; omega) _
      have b2 := b1.trans (HB21.out.mono (by have := HZ7.out; omega))
      have b3 := (b2.alloc (by have := HZ7.out; omega) (.cells #[.int .i64 ma, .int .i64 mb, .int .i64 mc, .int .i64 md] 23)).trans (HB23.out.mono (by have := HZ7.out; omega))
      exact HBW.out.trans (b3.mono (by omega)))
    obtain ⟨y0, y1, y2, y3⟩ := HCY.out w23 HB23.out
    obtain ⟨x0, x1, x2, x3⟩ := HCX.out w23 ((HB21.out.alloc (by omega) (.cells #[.int .i64 ma, .int .i64 mb, .int .i64 mc, .int .i64 md] 23)).trans (HB23.out.mono (by omega)))
    have hx1 : w20.heap.size < w23.heap.size := cell_lt x0
    have hy1 : w21.heap.size < w23.heap.size := cell_lt y0
    clear hb23 HB23 HB22 HB21 HCX HCY
    go_wp2_with fail
    with_reducible refine (nil_mwrite _).mono ?_
    rintro e w24 ⟨rfl, hb24⟩
    have HBF : Hid (Below w.heap.size w w24) := Lib.hid (HBE.out.trans (hb24.mono HBE.out.size))
    clear hb24 x0 x1 x2 x3 y0 y1 y2 y3
    go_wp2
    go_ret
    exact ⟨rfl, HBF.out⟩
end Go.Proofs.YtpoiopjggmhnjaaDoor
