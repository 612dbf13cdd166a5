/- Merged texts: Ch3 Ch4 Ch5. -/
import Derived.Test.YtaodldagmmephaaGreatD2
import Derived.Test.YtaodldagmmephaaGreatD1
import Derived.Test.YtaodldagmmephaaGreatB7
import Derived.Deep.DeepCutAuto
import Derived.Deep.CutBlock
import Derived.Deep.LoopGhost
/- arboretumlaw20.RaftChanges: its state; a round's pieces. -/
namespace Go.Proofs.YtaodldagmmephaaGreat
open Go.RowKit Go.Maps
namespace RF
/-- The law's core as it goes on. -/
structure Cs (w : World) (rb B0 k : Nat) (s : RS) (h : Hd) (W : World) : Prop where
  cl : h.clean
  rf : Rf rb B0 s h W
  bd : RB ((40 + k : Nat) : Int) (40 + k) s
  ch : Ch s
  out : s.out = ot0
  lo : w.heap.size ≤ B0
  bel : Below w.heap.size w W
section
variable {w : World} {rb B0 k : Nat} {s : RS} {h : Hd} {W W' : World}
theorem Cs.below (C : Cs w rb B0 k s h W) (hb : Below W.heap.size W W') : Cs w rb B0 k s h W' := ⟨C.cl, C.rf.below hb, C.bd, C.ch, C.out, C.lo, C.bel.trans (hb.mono C.bel.size)⟩
theorem Cs.next {s' : RS} {h' : Hd} {k' : Nat} (C : Cs w rb B0 k s h W) (hc : h'.clean) (hr : Rf rb B0 s' h' W') (hp : PS rb h h' W W') (hb : RB ((40 + k' : Nat) : Int) (40 + k') s') (hs : Ch s') (ho : s'.out = ot0) : Cs w rb B0 k' s' h' W' :=
  ⟨hc, hr, hb, hs, ho, C.lo, C.bel.trans (hp.1.below C.bel.size (fun _ hi => Nat.le_trans C.lo (C.rf.lt hi).1))⟩
theorem Cs.mono (C : Cs w rb B0 k s h W) {k' : Nat} (hk : k ≤ k') (h9 : k' ≤ 2000) : Cs w rb B0 k' s h W := ⟨C.cl, C.rf, C.bd.mono (by omega) (by omega) (by omega) (by omega), C.ch, C.out, C.lo, C.bel⟩
theorem Cs.step (C : Cs w rb B0 k s h W) (hk : k ≤ 1000) (y : Int) : RB ((40 + (k + 1) : Nat) : Int) (40 + (k + 1)) (s.stepF (smg 4 y 1 s.last 0 true)) := by
  have h := (C.bd.stepS 4 y 1 s.last 0 true (by omega) (by omega)).fin
  rw [show ((40 + k : Nat) : Int) + 1 = ((40 + (k + 1) : Nat) : Int) by omega] at h
  exact h
end
/-- A list in a list. -/
structure LI where
  p : Option Addr
  n : Nat
  c : Nat
  xs : List Int
instance : Inhabited LI := ⟨⟨none, 0, 0, []⟩⟩
def licells (z : LI) : List Value := [.slice z.p z.n z.c]
def LIok (w : World) (z : LI) : Prop := RdI w w.heap.size z.p z.n z.xs ∧ (∀ x ∈ z.xs, okI x) ∧ z.n ≤ 9223372036854775807
set_option maxHeartbeats 40000000 in
set_option maxRecDepth 100000 in
theorem ch4 {c : Code} (hc : (Tryz.f6).body.bind (blkOf2 4) = some c) {Q : Exit → Act → World → Prop} {w W8 : World} {rb B0 k pb po nl cl i : Nat} {s : RS} {h : Hd} {z : LI} {ix : Int} {f0 f2 f3 f4 f6 f7 f9 f11 f12 f13 f14 f15 f16 f18 f19 f20 f21 f22 f23 f24 f25 f26 f27 f28 f29 f30 f31 f32 f33 f34 f35 f36 f37 f38 f39 f40 f41 f42 f43 f44 f45 f46 f47 f48 f49 f50 f51 f52 f53 f54 f55 f56 f57 f58 f59 f60 f61 f62 f63 f64 f65 f66 f67 f68 f69 f70 f71 f72 f73 f74 f75 f76 f77 f78 f79 f80 f81 f82 f83 f84 f85 f86 f87 f88 f89 f90 f91 f92 f93 f94 f95 f96 f97 f98 f99 f100 f101 f102 f103 f104 f105 f106 f107 f108 f109 f110 f111 f112 f113 f114 f115 f116 f117 f118 f119 f120 f121 f122 f123 f124 f125 f126 f127 f128 f129 f130 f131 f132 f133 f134 f135 f136 f137 f138 f139 f160 f161 f162 f163 f164 f165 v140 v141 v142 v143 v144 v145 v146 v147 v148 v149 v150 v151 v152 v153 v154 v155 v156 v157 v158 v159 : Value} (HC : Hid (Cs w rb B0 k s h W8)) (HZC : Hid (∀ W, Below w.heap.size w W → W.cell? ⟨pb, po + i, none⟩ = some (.slice z.p z.n z.c))) (HZ : Hid (LIok w z)) (hix : ix = s.last) (hall : s.all = z.xs) (hlt : i < nl) (hn12 : z.n ≤ 12) (hk9 : k ≤ 900)
    (hQ : ∀ (u17 u140 u141 u142 u143 u144 u145 u146 u147 u148 u149 u150 u151 u152 u153 u154 u155 u156 u157 u158 u159 : Value) (s' : RS) (h' : Hd) (wx : World), Hid (Cs w rb B0 (k + z.n) s' h' wx ∧ s'.core = s.core ∧ ∀ i ∈ s'.others, (s'.pr i).mt = s'.last) → Q .normal ⟨#[f0, .slice (some ⟨pb, po, none⟩) nl cl, f2, f3, f4, .pointer (some ⟨rb, 0, none⟩), f6, f7, .int .i64 (i : Int), f9, .int .i64 ix, f11, f12, f13, f14, f15, f16, u17, f18, f19, f20, f21, f22, f23, f24, f25, f26, f27, f28, f29, f30, f31, f32, f33, f34, f35, f36, f37, f38, f39, f40, f41, f42, f43, f44, f45, f46, f47, f48, f49, f50, f51, f52, f53, f54, f55, f56, f57, f58, f59, f60, f61, f62, f63, f64, f65, f66, f67, f68, f69, f70, f71, f72, f73, f74, f75, f76, f77, f78, f79, f80, f81, f82, f83, f84, f85, f86, f87, f88, f89, f90, f91, f92, f93, f94, f95, f96, f97, f98, f99, f100, f101, f102, f103, f104, f105, f106, f107, f108, f109, f110, f111, f112, f113, f114, f115, f116, f117, f118, f119, f120, f121, f122, f123, f124, f125, f126, f127, f128, f129, f130, f131, f132, f133, f134, f135, f136, f137, f138, f139, u140, u141, u142, u143, u144, u145, u146, u147, u148, u149, u150, u151, u152, u153, u154, u155, u156, u157, u158, u159, f160, f161, f162, f163, f164, f165], []⟩ wx) : c.wp Tryz.prog Q ⟨#[f0, .slice (some ⟨pb, po, none⟩) nl cl, f2, f3, f4, .pointer (some ⟨rb, 0, none⟩), f6, f7, .int .i64 (i : Int), f9, .int .i64 ix, f11, f12, f13, f14, f15, f16, .int .i64 0, f18, f19, f20, f21, f22, f23, f24, f25, f26, f27, f28, f29, f30, f31, f32, f33, f34, f35, f36, f37, f38, f39, f40, f41, f42, f43, f44, f45, f46, f47, f48, f49, f50, f51, f52, f53, f54, f55, f56, f57, f58, f59, f60, f61, f62, f63, f64, f65, f66, f67, f68, f69, f70, f71, f72, f73, f74, f75, f76, f77, f78, f79, f80, f81, f82, f83, f84, f85, f86, f87, f88, f89, f90, f91, f92, f93, f94, f95, f96, f97, f98, f99, f100, f101, f102, f103, f104, f105, f106, f107, f108, f109, f110, f111, f112, f113, f114, f115, f116, f117, f118, f119, f120, f121, f122, f123, f124, f125, f126, f127, f128, f129, f130, f131, f132, f133, f134, f135, f136, f137, f138, f139, v140, v141, v142, v143, v144, v145, v146, v147, v148, v149, v150, v151, v152, v153, v154, v155, v156, v157, v158, v159, f160, f161, f162, f163, f164, f165], []⟩ W8 := by
  have HQ := Lib.hid hQ
  clear hQ
  obtain ⟨d, hd, hc⟩ := blk_body2 hc
  unfold Tryz.f6 at hd
  simp only [Option.some.injEq] at hd
  subst hd
  simp [blkOf2] at hc
  subst hc
  have hltI : (i : Int) < (nl : Int) := by omega
  have HXL : Hid (z.xs.length = z.n) := Lib.hid HZ.out.1.1
  have HAL := Lib.hid hall
  have HIX := Lib.hid hix
  clear hall hix
  go_wp2
  go_loopw [17] (fun kv wr => ∃ (j : Nat) (s' : RS) (h' : Hd), j ≤ z.n ∧ kv = .int .i64 (j : Int) ∧ Hid (Cs w rb B0 (k + j) s' h' wr ∧ s'.core = s.core ∧ ∀ i ∈ s'.others, i ∈ z.xs.take j → (s'.pr i).mt = s'.last)) (fun kv _ => z.n - (intOf kv).toNat)
  case atStart => exact ⟨0, s, h, Nat.zero_le _, rfl, Lib.hid ⟨HC.out, rfl, fun i _ hi => absurd hi (by rw [List.take_zero]; exact List.not_mem_nil)⟩⟩
  case round =>
    obtain ⟨j, s', h', hj, rfl, HJ⟩ := hrel
    have z1 := HZC.out wr HJ.out.1.bel
    by_cases hjl : j < z.n
    case neg =>
      have hjI : ¬ ((j : Int) < (z.n : Int)) := by omega
      have HF : Hid (Cs w rb B0 (k + z.n) s' h' wr ∧ s'.core = s.core ∧ ∀ i ∈ s'.others, (s'.pr i).mt = s'.last) := Lib.hid (by
        have e : j = z.n := by omega
        subst e
        refine ⟨HJ.out.1, HJ.out.2.1, fun i hi => HJ.out.2.2 i hi ?_⟩
        rw [List.take_of_length_le (by rw [HXL.out]; exact Nat.le_refl _), ← HAL.out, ← (Core.all HJ.out.2.1).1]
        unfold RS.others at hi
        exact (List.mem_filter.1 hi).1)
      go_wp2
      exact HQ.out _ _ _ _ _ _ _ _ _ _ _ _ _ _ _ _ _ _ _ _ _ _ _ _ HF
    case pos =>
    have hjI : (j : Int) < (z.n : Int) := by omega
    obtain ⟨g, o, hge, hgb, hgc⟩ := HZ.out.1.2 (by omega)
    have z2 : wr.cell? ⟨g, o + j, none⟩ = some (.int .i64 (HL.el z.xs j)) := (HJ.out.1.bel.cell (p := ⟨g, o + j, none⟩) hgb).trans (hgc j hjl)
    rw [hge] at z1
    have hmem : HL.el z.xs j ∈ s'.all := by
      rw [(Core.all HJ.out.2.1).1, HAL.out]
      exact el_in (by rw [HXL.out]; exact hjl)
    have hel : (s'.last : Int) = ix := by rw [(Core.all HJ.out.2.1).2.2.1, HIX.out]
    have htk : z.xs.take (j + 1) = z.xs.take j ++ [HL.el z.xs j] := by
      rw [List.take_succ_eq_append_getElem (by rw [HXL.out]; exact hjl)]
      congr 1
      unfold HL.el
      rw [List.getD_eq_getElem?_getD, List.getElem?_eq_getElem (by rw [HXL.out]; exact hjl)]
      rfl
    have HTK := Lib.hid htk
    have HAN := Lib.hid (answer_ch HJ.out.1.ch _ hmem)
    have HBS := Lib.hid (HJ.out.1.step (by omega) (HL.el z.xs j))
    have hbd := HJ.out.1.bd
    have hbt := hbd.top
    have hbl := HJ.out.1.ch.c0
    have HST := Lib.hid (rf_stepS 4 (HL.el z.xs j) 1 s'.last 0 true HJ.out.1.rf HJ.out.1.bd (by omega) (by omega) HJ.out.1.ch.vt HJ.out.1.cl HJ.out.1.out (by omega) (by omega))
    rw [hel] at HST
    clear hgb hgc hmem htk hbd hbt hbl
    generalize HL.el z.xs j = y at *
    rw [hel] at HAN HBS
    go_wp2_with fail
    with_reducible refine (HST.out).mono ?_
    rintro e W4 ⟨v4, h4, rfl, hcl4, hr4, hp4, _⟩
    have HF : Hid (Cs w rb B0 (k + (j + 1)) (s'.stepF (smg 4 y 1 ix 0 true)) h4 W4 ∧ (s'.stepF (smg 4 y 1 ix 0 true)).core = s.core ∧ ∀ i ∈ (s'.stepF (smg 4 y 1 ix 0 true)).others, i ∈ z.xs.take (j + 1) → ((s'.stepF (smg 4 y 1 ix 0 true)).pr i).mt = (s'.stepF (smg 4 y 1 ix 0 true)).last) := Lib.hid (by
      have hq := Core.all HAN.out.2.1
      refine ⟨HJ.out.1.next hcl4 hr4 hp4 HBS.out HAN.out.1 rfl, HAN.out.2.1.trans HJ.out.2.1, fun i hi hin => ?_⟩
      rw [hq.2.1] at hi
      rw [hq.2.2.1, HAN.out.2.2.2 i hi]
      rw [HTK.out] at hin
      by_cases e : i = y
      · rw [if_pos e]; exact hel.symm
      · rw [if_neg e]
        rcases List.mem_append.1 hin with h1 | h1
        · exact HJ.out.2.2 i hi h1
        · rw [List.mem_singleton] at h1
          exact absurd h1 e)
    have hwj : IntKind.i64.wrap ((j : Int) + 1) = (j : Int) + 1 := IntWalk.i64_in _ (by omega)
    clear hcl4 hr4 hp4 HST HBS HAN HJ
    go_wp2
    go_roundw
    case rel => exact ⟨j + 1, _, h4, by omega, by go_num, HF⟩
    case measure => simp [intOf]; omega
set_option maxHeartbeats 40000000 in
set_option maxRecDepth 100000 in
theorem ch27 {c : Code} (hc : (Tryz.f6).body.bind (aftTest 23) = some c) {Q : Exit → Act → World → Prop} {w W8 : World} {rb B0 k pb po nl cl i : Nat} {s : RS} {h : Hd} {z : LI} {ix : Int} {f0 f2 f3 f4 f6 f7 f9 f11 f12 f13 f14 f15 f16 f18 f19 f20 f21 f22 f23 f24 f25 f26 f27 f28 f29 f30 f31 f32 f33 f34 f35 f36 f37 f38 f39 f40 f41 f42 f43 f44 f45 f46 f47 f48 f49 f50 f51 f52 f53 f54 f55 f56 f57 f58 f59 f60 f61 f62 f63 f64 f65 f66 f67 f68 f69 f70 f71 f72 f73 f74 f75 f76 f77 f78 f79 f80 f81 f82 f83 f84 f85 f86 f87 f88 f89 f90 f91 f92 f93 f94 f95 f96 f97 f98 f99 f100 f101 f102 f103 f104 f105 f106 f107 f108 f109 f110 f111 f112 f113 f114 f115 f116 f117 f118 f119 f120 f121 f122 f123 f124 f125 f126 f127 f128 f129 f130 f131 f132 f133 f134 f135 f136 f137 f138 f139 f165 v17 v140 v141 v142 v143 v144 v145 v146 v147 v148 v149 v150 v151 v152 v153 v154 v155 v156 v157 v158 v159 v160 v161 v162 v163 v164 : Value} (HC : Hid (Cs w rb B0 k s h W8)) (HZC : Hid (∀ W, Below w.heap.size w W → W.cell? ⟨pb, po + i, none⟩ = some (.slice z.p z.n z.c))) (HZ : Hid (LIok w z)) (hix : ix = s.last) (hall : s.all = z.xs) (hlt : i < nl) (hn12 : z.n ≤ 12) (hk9 : k ≤ 900)
    (hQ : ∀ (u17 u140 u141 u142 u143 u144 u145 u146 u147 u148 u149 u150 u151 u152 u153 u154 u155 u156 u157 u158 u159 u160 u161 u162 u163 u164 : Value) (s' : RS) (h' : Hd) (wx : World), Hid (Cs w rb B0 (k + z.n) s' h' wx) → Q .normal ⟨#[f0, .slice (some ⟨pb, po, none⟩) nl cl, f2, f3, f4, .pointer (some ⟨rb, 0, none⟩), f6, f7, .int .i64 (i : Int), f9, .int .i64 ix, f11, f12, f13, f14, f15, f16, u17, f18, f19, f20, f21, f22, f23, f24, f25, f26, f27, f28, f29, f30, f31, f32, f33, f34, f35, f36, f37, f38, f39, f40, f41, f42, f43, f44, f45, f46, f47, f48, f49, f50, f51, f52, f53, f54, f55, f56, f57, f58, f59, f60, f61, f62, f63, f64, f65, f66, f67, f68, f69, f70, f71, f72, f73, f74, f75, f76, f77, f78, f79, f80, f81, f82, f83, f84, f85, f86, f87, f88, f89, f90, f91, f92, f93, f94, f95, f96, f97, f98, f99, f100, f101, f102, f103, f104, f105, f106, f107, f108, f109, f110, f111, f112, f113, f114, f115, f116, f117, f118, f119, f120, f121, f122, f123, f124, f125, f126, f127, f128, f129, f130, f131, f132, f133, f134, f135, f136, f137, f138, f139, u140, u141, u142, u143, u144, u145, u146, u147, u148, u149, u150, u151, u152, u153, u154, u155, u156, u157, u158, u159, u160, u161, u162, u163, u164, f165], []⟩ wx) : c.wp Tryz.prog Q ⟨#[f0, .slice (some ⟨pb, po, none⟩) nl cl, f2, f3, f4, .pointer (some ⟨rb, 0, none⟩), f6, f7, .int .i64 (i : Int), f9, .int .i64 ix, f11, f12, f13, f14, f15, f16, v17, f18, f19, f20, f21, f22, f23, f24, f25, f26, f27, f28, f29, f30, f31, f32, f33, f34, f35, f36, f37, f38, f39, f40, f41, f42, f43, f44, f45, f46, f47, f48, f49, f50, f51, f52, f53, f54, f55, f56, f57, f58, f59, f60, f61, f62, f63, f64, f65, f66, f67, f68, f69, f70, f71, f72, f73, f74, f75, f76, f77, f78, f79, f80, f81, f82, f83, f84, f85, f86, f87, f88, f89, f90, f91, f92, f93, f94, f95, f96, f97, f98, f99, f100, f101, f102, f103, f104, f105, f106, f107, f108, f109, f110, f111, f112, f113, f114, f115, f116, f117, f118, f119, f120, f121, f122, f123, f124, f125, f126, f127, f128, f129, f130, f131, f132, f133, f134, f135, f136, f137, f138, f139, v140, v141, v142, v143, v144, v145, v146, v147, v148, v149, v150, v151, v152, v153, v154, v155, v156, v157, v158, v159, v160, v161, v162, v163, v164, f165], []⟩ W8 := by
  have HQ := Lib.hid hQ
  clear hQ
  obtain ⟨d, hd, hc⟩ := aft_test hc
  unfold Tryz.f6 at hd
  simp only [Option.some.injEq] at hd
  subst hd
  simp [aftTest, headReg] at hc
  subst hc
  have HIX := Lib.hid hix
  (try simp only [])
  go_upto_block 4 with fail
  refine ch4 (c := _) (by kernel_rfl) HC HZC HZ hix hall hlt hn12 hk9 ?_
  intro _ _ _ _ _ _ _ _ _ _ _ _ _ _ _ _ _ _ _ _ _ s' h' wx HF
  have HT : Hid (s'.commit = ix) := Lib.hid (by
    rw [all_told HF.out.1.ch HF.out.2.2, (Core.all HF.out.2.1).2.2.1]
    exact HIX.out.symm)
  have HSV := Lib.hid (rf_state HF.out.1.rf HF.out.1.bd)
  unfold stateV at HSV
  rw [HT.out] at HSV
  clear hix hall
  go_wp2_with fail
  with_reducible refine (HSV.out).mono ?_
  rintro e W9 ⟨v9, rfl, ho9, hb9⟩
  obtain ⟨p9', c9', hv9⟩ := owns_slice ho9
  subst hv9
  have HF9 := Lib.hid (HF.out.1.below hb9)
  clear hb9 HSV ho9
  have hfd : (Instr.field 41 (.agg #[.int .i64 s'.id, .int .i64 s'.role, .int .i64 s'.lead, .int .i64 s'.term, .int .i64 s'.vote, .int .i64 ix, .int .i64 s'.b, .int .i64 (lastS s'.b s'.t s'.l).1, .int .i64 (lastS s'.b s'.t s'.l).2, .int .i64 s'.elapsed, .int .i64 s'.timeout, .int .i64 s'.round, .slice p9' s'.all.length c9']) 5).run Tryz.prog W9 = .ok (.int .i64 ix) W9 := by kernel_rfl
  go_wp2
  exact HQ.out _ _ _ _ _ _ _ _ _ _ _ _ _ _ _ _ _ _ _ _ _ _ _ _ _ _ _ _ _ HF9
set_option maxHeartbeats 40000000 in
set_option maxRecDepth 100000 in
theorem ch21 {c : Code} (hc : (Tryz.f6).body.bind (aftTest 18) = some c) {Q : Exit → Act → World → Prop} {w W8 : World} {rb B0 k pb po nl cl i b13 n9 c9 cx : Nat} {p9 px : Option Addr} {m : List Int} {s : RS} {h : Hd} {z : LI} {ix : Int} {f0 f2 f3 f6 f7 f11 f12 f18 f19 f20 f21 f22 f23 f24 f25 f26 f27 f28 f29 f30 f31 f32 f33 f34 f35 f36 f37 f38 f39 f40 f41 f42 f43 f44 f45 f46 f47 f48 f49 f50 f51 f52 f53 f54 f55 f56 f57 f58 f59 f60 f61 f62 f63 f64 f65 f66 f67 f68 f69 f70 f71 f72 f73 f74 f75 f76 f77 f78 f79 f80 f81 f82 f83 f84 f85 f165 v4 v14 v15 v16 v17 v86 v87 v88 v89 v90 v91 v92 v93 v94 v95 v96 v97 v98 v99 v100 v101 v102 v103 v104 v105 v106 v107 v108 v109 v110 v111 v112 v113 v114 v115 v116 v117 v118 v119 v120 v121 v122 v123 v124 v125 v126 v127 v128 v129 v130 v131 v132 v133 v134 v135 v136 v137 v138 v139 v140 v141 v142 v143 v144 v145 v146 v147 v148 v149 v150 v151 v152 v153 v154 v155 v156 v157 v158 v159 v160 v161 v162 v163 v164 : Value} (HC : Hid (Cs w rb B0 k s h W8)) (HZC : Hid (∀ W, Below w.heap.size w W → W.cell? ⟨pb, po + i, none⟩ = some (.slice z.p z.n z.c))) (HZ : Hid (LIok w z)) (HB : Hid (∀ W, Below W8.heap.size W8 W → W.cell? ⟨b13, 5, none⟩ = some (.int .i64 s.commit) ∧ W.cell? ⟨b13, 7, none⟩ = some (.int .i64 ix) ∧ W.cell? ⟨b13, 12, none⟩ = some (.slice px z.n cx))) (HM : Hid (RdI W8 W8.heap.size p9 n9 m ∧ CL.Valid m ∧ (1 : Int) ∈ m)) (HN : Hid (CL.near m z.xs = true ∧ (1 : Int) ∈ z.xs ∧ CL.Valid z.xs)) (HL : Hid ((lmemV s.l s.last).2 = s.last)) (hix : ix = s.last) (hall : s.all = z.xs) (hlt : i < nl) (hn12 : z.n ≤ 12) (hk9 : k ≤ 300)
    (hQ : ∀ (u4 u14 u15 u16 u17 u86 u87 u88 u89 u90 u91 u92 u93 u94 u95 u96 u97 u98 u99 u100 u101 u102 u103 u104 u105 u106 u107 u108 u109 u110 u111 u112 u113 u114 u115 u116 u117 u118 u119 u120 u121 u122 u123 u124 u125 u126 u127 u128 u129 u130 u131 u132 u133 u134 u135 u136 u137 u138 u139 u140 u141 u142 u143 u144 u145 u146 u147 u148 u149 u150 u151 u152 u153 u154 u155 u156 u157 u158 u159 u160 u161 u162 u163 u164 : Value) (s' : RS) (h' : Hd) (wx : World), Hid (Cs w rb B0 (k + z.n) s' h' wx) → Q .normal ⟨#[f0, .slice (some ⟨pb, po, none⟩) nl cl, f2, f3, u4, .pointer (some ⟨rb, 0, none⟩), f6, f7, .int .i64 (i : Int), .slice p9 n9 c9, .int .i64 ix, f11, f12, .pointer (some ⟨b13, 0, none⟩), u14, u15, u16, u17, f18, f19, f20, f21, f22, f23, f24, f25, f26, f27, f28, f29, f30, f31, f32, f33, f34, f35, f36, f37, f38, f39, f40, f41, f42, f43, f44, f45, f46, f47, f48, f49, f50, f51, f52, f53, f54, f55, f56, f57, f58, f59, f60, f61, f62, f63, f64, f65, f66, f67, f68, f69, f70, f71, f72, f73, f74, f75, f76, f77, f78, f79, f80, f81, f82, f83, f84, f85, u86, u87, u88, u89, u90, u91, u92, u93, u94, u95, u96, u97, u98, u99, u100, u101, u102, u103, u104, u105, u106, u107, u108, u109, u110, u111, u112, u113, u114, u115, u116, u117, u118, u119, u120, u121, u122, u123, u124, u125, u126, u127, u128, u129, u130, u131, u132, u133, u134, u135, u136, u137, u138, u139, u140, u141, u142, u143, u144, u145, u146, u147, u148, u149, u150, u151, u152, u153, u154, u155, u156, u157, u158, u159, u160, u161, u162, u163, u164, f165], []⟩ wx) : c.wp Tryz.prog Q ⟨#[f0, .slice (some ⟨pb, po, none⟩) nl cl, f2, f3, v4, .pointer (some ⟨rb, 0, none⟩), f6, f7, .int .i64 (i : Int), .slice p9 n9 c9, .int .i64 ix, f11, f12, .pointer (some ⟨b13, 0, none⟩), v14, v15, v16, v17, f18, f19, f20, f21, f22, f23, f24, f25, f26, f27, f28, f29, f30, f31, f32, f33, f34, f35, f36, f37, f38, f39, f40, f41, f42, f43, f44, f45, f46, f47, f48, f49, f50, f51, f52, f53, f54, f55, f56, f57, f58, f59, f60, f61, f62, f63, f64, f65, f66, f67, f68, f69, f70, f71, f72, f73, f74, f75, f76, f77, f78, f79, f80, f81, f82, f83, f84, f85, v86, v87, v88, v89, v90, v91, v92, v93, v94, v95, v96, v97, v98, v99, v100, v101, v102, v103, v104, v105, v106, v107, v108, v109, v110, v111, v112, v113, v114, v115, v116, v117, v118, v119, v120, v121, v122, v123, v124, v125, v126, v127, v128, v129, v130, v131, v132, v133, v134, v135, v136, v137, v138, v139, v140, v141, v142, v143, v144, v145, v146, v147, v148, v149, v150, v151, v152, v153, v154, v155, v156, v157, v158, v159, v160, v161, v162, v163, v164, f165], []⟩ W8 := by
  have HQ := Lib.hid hQ
  clear hQ
  obtain ⟨d, hd, hc⟩ := aft_test hc
  unfold Tryz.f6 at hd
  simp only [Option.some.injEq] at hd
  subst hd
  simp [aftTest, headReg] at hc
  subst hc
  have hltI : (i : Int) < (nl : Int) := by omega
  have hn9 : n9 ≤ 9 := by have h1 := HM.out.1.1; have h2 := HM.out.2.1.2.1; omega
  have HRX := Lib.hid (fun (q : Later W8) => (HZ.out.1.below (HC.out.bel.trans (q.2.mono HC.out.bel.size))).more (HC.out.bel.trans (q.2.mono HC.out.bel.size)).size)
  have HNR := Lib.hid (fun (q : Later W8) => ref_near p9 z.p n9 c9 z.n z.c m z.xs q.1 ((HM.out.1.below q.2).more q.2.size) (HRX.out q) (by omega) (by omega))
  rw [HN.out.1] at HNR
  have HHS : Hid (∀ q : Later W8, Calls Tryz.prog 23 #[.slice z.p z.n z.c, .int .i64 1] q.1 fun e w' => e = .returned (.bool true) ∧ w' = q.1) := Lib.hid (fun q => (ref_has z.p z.n z.c _ z.xs 1 q.1 (HRX.out q) (by omega)).mono (fun e w' h => ⟨by rw [h.1, decide_eq_true HN.out.2.1], h.2.symm⟩))
  have HVA : Hid (∀ q : Later W8, Calls Tryz.prog 24 #[.slice z.p z.n z.c] q.1 fun e w' => e = .returned (.bool true) ∧ Below q.1.heap.size q.1 w') := Lib.hid (fun q => (ref_valid z.p z.n z.c _ z.xs q.1 (HRX.out q) (Nat.le_refl _) (by omega)).mono (fun e w' h => by
    obtain ⟨b, h1, h2, h3⟩ := h
    have : b = true := h2.2 HN.out.2.2
    exact ⟨by rw [h1, this], h3⟩))
  have z1 : ∀ q : Later W8, q.1.cell? ⟨pb, po + i, none⟩ = some (.slice z.p z.n z.c) := fun q => HZC.out q.1 (HC.out.bel.trans (q.2.mono HC.out.bel.size))
  have n7 : ∀ q : Later W8, q.1.cell? ⟨b13, 7, none⟩ = some (.int .i64 ix) := fun q => (HB.out q.1 q.2).2.1
  have n12 : ∀ q : Later W8, q.1.cell? ⟨b13, 12, none⟩ = some (.slice px z.n cx) := fun q => (HB.out q.1 q.2).2.2
  have HIX := Lib.hid hix
  have HALL := Lib.hid hall
  have g1 : (ix != ix) = false := by simp
  have g2 : ((z.n : Int) != (z.n : Int)) = false := by simp
  clear hix hall
  (try simp only [])
  go_upto_region 21 with fail
  refine wp_region_later (by kernel_rfl) (by kernel_rfl) ?_
  repeat (go_big_quiet_step ((first | (go_at_call 22; exact Calls.later_of (HNR.out _)) | (go_at_call 23; exact Calls.later_same (HHS.out _)) | (go_at_call 24; exact Calls.later_of (HVA.out _)))))
  refine wpQuiet_nil ?_
  intro W9 hw'
  obtain ⟨⟨wq, hq⟩, hw''⟩ := hw'
  have hwe : W9 = wq := hw''
  clear hw''
  subst hwe
  have HQ9 := Lib.hid hq
  have HC9 := Lib.hid (HC.out.below hq)
  have HM9 := Lib.hid ((HM.out.1.below hq).more hq.size)
  have n5 := (HB.out W9 hq).1
  clear z1 n7 n12 HNR HHS HVA HRX hq g1 g2
  go_upto_if 129 with fail
  go_cut [] from 126 to 139 (fun wx => ∃ (s' : RS) (h' : Hd), Hid (Cs w rb B0 k s' h' wx ∧ s'.all = z.xs ∧ s'.last = ix))
  case first =>
    by_cases hcm : s.commit < ix
    · have dcm : decide (s.commit < ix) = true := decide_eq_true hcm
      have HBZ : Hid (s.propE 2 (bytesOf (memsL m)) = 22) := Lib.hid (prop_busy HC.out.ch HALL.out (by rw [near_symm]; exact HN.out.1) HM.out.2.1 HM.out.2.2 HL.out (by rw [← HIX.out]; exact hcm) (by have := HC.out.bd.few; omega))
      have HPM := Lib.hid (ref_putMembers p9 n9 c9 m W9 HM9.out (by omega))
      have hsz : (bytesOf (memsL m)).size < 9223372036854775808 := by
        rw [bytes_size]
        unfold memsL
        rw [List.length_append]
        have h1 := varL_len (m.length : Int)
        have h2 := varsL_len m
        have h3 := HM.out.2.1.2.1
        omega
      have HSZ := Lib.hid hsz
      clear hsz n5
      go_wp2_with fail
      with_reducible refine (HPM.out).mono ?_
      rintro e W10 ⟨rfl, hb10⟩
      have HC10 := Lib.hid (HC9.out.below hb10)
      have HPR := Lib.hid (rf_prop 2 (bytesOf (memsL m)) HC10.out.rf HC10.out.bd (by omega) (by omega) HC10.out.cl HC10.out.out HSZ.out)
      unfold PropAns at HPR
      rw [HBZ.out, if_neg (show ¬ (22 : Int) = 0 by omega), if_neg (show ¬ (22 : Int) = 0 by omega)] at HPR
      clear hb10 HPM
      go_wp2_with fail
      with_reducible refine (HPR.out).mono ?_
      rintro e W11 ⟨v11, rfl, hA⟩
      obtain ⟨p1, n1, k1, p2, n2, k2, hv2⟩ := hA.form
      injection hv2 with hv2
      subst hv2
      obtain ⟨_, h2, _, hcl2, hr2, hp2, _⟩ := hA
      have HC11 : Hid (Cs w rb B0 k s.fin h2 W11) := Lib.hid (HC10.out.next hcl2 hr2 hp2 HC10.out.bd.fin (HC10.out.ch.of rfl rfl rfl) rfl)
      have hb12 : Below W11.heap.size W11 (W11.alloc (.cells #[.slice p1 n1 k1, .bool s.out.hd, .int .i64 s.out.fr, .slice p2 n2 k2] 37)) := (Below.refl _ W11).alloc (Nat.le_refl _) _
      have HC12 : Hid (Cs w rb B0 k s.fin h2 _ ∧ s.fin.all = z.xs ∧ s.fin.last = ix) := Lib.hid ⟨HC11.out.below hb12, HALL.out, HIX.out.symm⟩
      clear hcl2 hr2 hp2 hb12 HPR HC10 HC9 HC11 HM9
      go_wp2
      go_meet
      case rel => exact ⟨_, _, HC12⟩
    · have dcm : decide (s.commit < ix) = false := decide_eq_false hcm
      have HF : Hid (Cs w rb B0 k s h W9 ∧ s.all = z.xs ∧ s.last = ix) := Lib.hid ⟨HC9.out, HALL.out, HIX.out.symm⟩
      have hcp : ix ≤ s.commit := by omega
      clear n5
      go_wp2
      go_meet
      case rel => exact ⟨_, _, HF⟩
  case rest =>
  obtain ⟨s', h', HF⟩ := hcut
  go_step
  refine ch27 (c := _) (by kernel_rfl) (Lib.hid HF.out.1) HZC HZ HF.out.2.2.symm HF.out.2.1 hlt hn12 (by omega) ?_
  intro _ _ _ _ _ _ _ _ _ _ _ _ _ _ _ _ _ _ _ _ _ _ _ _ _ _ s2 h2 wx HE
  go_wp2
  exact HQ.out _ _ _ _ _ _ _ _ _ _ _ _ _ _ _ _ _ _ _ _ _ _ _ _ _ _ _ _ _ _ _ _ _ _ _ _ _ _ _ _ _ _ _ _ _ _ _ _ _ _ _ _ _ _ _ _ _ _ _ _ _ _ _ _ _ _ _ _ _ _ _ _ _ _ _ _ _ _ _ _ _ _ _ _ _ _ _ HE
end RF
end Go.Proofs.YtaodldagmmephaaGreat

/- arboretumlaw20.RaftChanges: a round; the walk. -/
namespace Go.Proofs.YtaodldagmmephaaGreat
open Go.RowKit Go.Maps
namespace RF
def vwC (s : RS) (v : Value) : List Value := [.int .i64 s.id, .int .i64 s.role, .int .i64 s.lead, .int .i64 s.term, .int .i64 s.vote, .int .i64 s.commit, .int .i64 s.b, .int .i64 (lastS s.b s.t s.l).1, .int .i64 (lastS s.b s.t s.l).2, .int .i64 s.elapsed, .int .i64 s.timeout, .int .i64 s.round, v]
theorem mems_size (l : List Int) (h : l.length ≤ 1000) : (bytesOf (memsL l)).size ≤ 20000 := by
  rw [bytes_size]
  unfold memsL
  rw [List.length_append]
  have h1 := varL_len (l.length : Int)
  have h2 := varsL_len l
  omega
set_option maxHeartbeats 40000000 in
set_option maxRecDepth 100000 in
theorem ch15 {c : Code} (hc : (Tryz.f6).body.bind (aftTest 13) = some c) {Q : Exit → Act → World → Prop} {w W8 : World} {rb B0 k pb po nl cl i : Nat} {s : RS} {h : Hd} {z : LI} {f0 f2 f3 f6 f7 f18 f19 f20 f21 f22 f23 f24 f25 f26 f27 f28 f29 f30 f31 f32 f33 f34 f35 f36 f37 f38 f39 f40 f41 f42 f43 f44 f45 f46 f47 f48 f49 f50 f51 f52 f53 f54 f55 f56 f57 f165 v4 v9 v10 v11 v12 v13 v14 v15 v16 v17 v58 v59 v60 v61 v62 v63 v64 v65 v66 v67 v68 v69 v70 v71 v72 v73 v74 v75 v76 v77 v78 v79 v80 v81 v82 v83 v84 v85 v86 v87 v88 v89 v90 v91 v92 v93 v94 v95 v96 v97 v98 v99 v100 v101 v102 v103 v104 v105 v106 v107 v108 v109 v110 v111 v112 v113 v114 v115 v116 v117 v118 v119 v120 v121 v122 v123 v124 v125 v126 v127 v128 v129 v130 v131 v132 v133 v134 v135 v136 v137 v138 v139 v140 v141 v142 v143 v144 v145 v146 v147 v148 v149 v150 v151 v152 v153 v154 v155 v156 v157 v158 v159 v160 v161 v162 v163 v164 : Value} (HC : Hid (Cs w rb B0 k s h W8)) (HZC : Hid (∀ W, Below w.heap.size w W → W.cell? ⟨pb, po + i, none⟩ = some (.slice z.p z.n z.c))) (HZ : Hid (LIok w z)) (hlt : i < nl) (hn12 : z.n ≤ 12) (hk9 : k ≤ 290)
    (hQ : ∀ (u4 u9 u10 u11 u12 u13 u14 u15 u16 u17 u58 u59 u60 u61 u62 u63 u64 u65 u66 u67 u68 u69 u70 u71 u72 u73 u74 u75 u76 u77 u78 u79 u80 u81 u82 u83 u84 u85 u86 u87 u88 u89 u90 u91 u92 u93 u94 u95 u96 u97 u98 u99 u100 u101 u102 u103 u104 u105 u106 u107 u108 u109 u110 u111 u112 u113 u114 u115 u116 u117 u118 u119 u120 u121 u122 u123 u124 u125 u126 u127 u128 u129 u130 u131 u132 u133 u134 u135 u136 u137 u138 u139 u140 u141 u142 u143 u144 u145 u146 u147 u148 u149 u150 u151 u152 u153 u154 u155 u156 u157 u158 u159 u160 u161 u162 u163 u164 : Value) (s' : RS) (h' : Hd) (k' : Nat) (ee : Exit) (wx : World), (ee = .normal ∨ ee = .exit 3) → Hid (Cs w rb B0 k' s' h' wx ∧ k' ≤ k + 14) → Q ee ⟨#[f0, .slice (some ⟨pb, po, none⟩) nl cl, f2, f3, u4, .pointer (some ⟨rb, 0, none⟩), f6, f7, .int .i64 (i : Int), u9, u10, u11, u12, u13, u14, u15, u16, u17, f18, f19, f20, f21, f22, f23, f24, f25, f26, f27, f28, f29, f30, f31, f32, f33, f34, f35, f36, f37, f38, f39, f40, f41, f42, f43, f44, f45, f46, f47, f48, f49, f50, f51, f52, f53, f54, f55, f56, f57, u58, u59, u60, u61, u62, u63, u64, u65, u66, u67, u68, u69, u70, u71, u72, u73, u74, u75, u76, u77, u78, u79, u80, u81, u82, u83, u84, u85, u86, u87, u88, u89, u90, u91, u92, u93, u94, u95, u96, u97, u98, u99, u100, u101, u102, u103, u104, u105, u106, u107, u108, u109, u110, u111, u112, u113, u114, u115, u116, u117, u118, u119, u120, u121, u122, u123, u124, u125, u126, u127, u128, u129, u130, u131, u132, u133, u134, u135, u136, u137, u138, u139, u140, u141, u142, u143, u144, u145, u146, u147, u148, u149, u150, u151, u152, u153, u154, u155, u156, u157, u158, u159, u160, u161, u162, u163, u164, f165], []⟩ wx) : c.wp Tryz.prog Q ⟨#[f0, .slice (some ⟨pb, po, none⟩) nl cl, f2, f3, v4, .pointer (some ⟨rb, 0, none⟩), f6, f7, .int .i64 (i : Int), v9, v10, v11, v12, v13, v14, v15, v16, v17, f18, f19, f20, f21, f22, f23, f24, f25, f26, f27, f28, f29, f30, f31, f32, f33, f34, f35, f36, f37, f38, f39, f40, f41, f42, f43, f44, f45, f46, f47, f48, f49, f50, f51, f52, f53, f54, f55, f56, f57, v58, v59, v60, v61, v62, v63, v64, v65, v66, v67, v68, v69, v70, v71, v72, v73, v74, v75, v76, v77, v78, v79, v80, v81, v82, v83, v84, v85, v86, v87, v88, v89, v90, v91, v92, v93, v94, v95, v96, v97, v98, v99, v100, v101, v102, v103, v104, v105, v106, v107, v108, v109, v110, v111, v112, v113, v114, v115, v116, v117, v118, v119, v120, v121, v122, v123, v124, v125, v126, v127, v128, v129, v130, v131, v132, v133, v134, v135, v136, v137, v138, v139, v140, v141, v142, v143, v144, v145, v146, v147, v148, v149, v150, v151, v152, v153, v154, v155, v156, v157, v158, v159, v160, v161, v162, v163, v164, f165], []⟩ W8 := by
  have HQ := Lib.hid hQ
  clear hQ
  obtain ⟨d, hd, hc⟩ := aft_test hc
  unfold Tryz.f6 at hd
  simp only [Option.some.injEq] at hd
  subst hd
  simp [aftTest, headReg] at hc
  subst hc
  have hltI : (i : Int) < (nl : Int) := by omega
  have HXL : Hid (z.xs.length = z.n) := Lib.hid HZ.out.1.1
  have HSV := Lib.hid (rf_state HC.out.rf HC.out.bd)
  unfold stateV at HSV
  (try simp only [])
  go_wp2_with fail
  with_reducible refine (HSV.out).mono ?_
  rintro e W9 ⟨v9, rfl, ho9, hb9⟩
  obtain ⟨p9, c9, hv9⟩ := owns_slice ho9
  subst hv9
  have HO9 := Lib.hid ho9
  have HC9 := Lib.hid (HC.out.below hb9)
  have HS9 := Lib.hid hb9.size
  have hfd : (Instr.field 41 (.agg #[.int .i64 s.id, .int .i64 s.role, .int .i64 s.lead, .int .i64 s.term, .int .i64 s.vote, .int .i64 s.commit, .int .i64 s.b, .int .i64 (lastS s.b s.t s.l).1, .int .i64 (lastS s.b s.t s.l).2, .int .i64 s.elapsed, .int .i64 s.timeout, .int .i64 s.round, .slice p9 s.all.length c9]) 12).run Tryz.prog W9 = .ok (.slice p9 s.all.length c9) W9 := by kernel_rfl
  clear ho9 hb9 HSV
  go_upto_region 16 with fail
  have z1 := HZC.out W9 HC9.out.bel
  have HPM := Lib.hid (ref_putMembers z.p z.n z.c z.xs W9 ((HZ.out.1.below HC9.out.bel).more HC9.out.bel.size) (by omega))
  have HSZ := Lib.hid (mems_size z.xs (by rw [HXL.out]; omega))
  clear hfd
  go_wp2_with fail
  with_reducible refine (HPM.out).mono ?_
  rintro e W10 ⟨rfl, hb10⟩
  have HC10 := Lib.hid (HC9.out.below hb10)
  have HO10 := Lib.hid ((Fr.of_all (S := fun _ => False) hb10).owns HO9.out (fun _ _ h => h))
  have HPR := Lib.hid (rf_prop 2 (bytesOf (memsL z.xs)) HC10.out.rf HC10.out.bd (by omega) (by omega) HC10.out.cl HC10.out.out (by have := HSZ.out; omega))
  have hnf : ∀ g, (Value.slice p9 s.all.length c9).ownBlock = some g → ¬ Fo rb h g := fun g hg hf => by
    have h1 := (HO9.out.lt g hg).1
    have h2 := (HC.out.rf.lt hf).2
    omega
  have HNF := Lib.hid hnf
  unfold PropAns at HPR
  clear hb10 HPM z1 HC9 HO9 hnf
  by_cases hpe : s.propE 2 (bytesOf (memsL z.xs)) = 0
  case neg =>
    rw [if_neg hpe, if_neg hpe] at HPR
    obtain ⟨ec, hec⟩ : ∃ ec, ec = s.propE 2 (bytesOf (memsL z.xs)) := ⟨_, rfl⟩
    rw [← hec] at HPR hpe
    clear hec
    go_wp2_with fail
    with_reducible refine (HPR.out).mono ?_
    rintro e W11 ⟨v11, rfl, hA⟩
    obtain ⟨p1, n1, k1, p2, n2, k2, hv2⟩ := hA.form
    injection hv2 with hv2
    subst hv2
    obtain ⟨_, h2, _, hcl2, hr2, hp2, _⟩ := hA
    have hb12 : Below W11.heap.size W11 (W11.alloc (.cells #[.slice p1 n1 k1, .bool s.out.hd, .int .i64 s.out.fr, .slice p2 n2 k2] 37)) := (Below.refl _ W11).alloc (Nat.le_refl _) _
    have HC12 : Hid (Cs w rb B0 k s.fin h2 _) := Lib.hid ((HC10.out.next hcl2 hr2 hp2 HC10.out.bd.fin (HC10.out.ch.of rfl rfl rfl) rfl : Cs w rb B0 k s.fin h2 W11).below hb12)
    clear hcl2 hr2 hp2 hb12 HPR HC10
    go_upto_region 17 with fail
    generalize W11.alloc (.cells #[.slice p1 n1 k1, .bool s.out.hd, .int .i64 s.out.fr, .slice p2 n2 k2] 37) = W12 at *
    generalize W11.heap.size = b15 at *
    have HS2 := Lib.hid (rf_state HC12.out.rf HC12.out.bd)
    unfold stateV at HS2
    go_wp2_with fail
    with_reducible refine (HS2.out).mono ?_
    rintro e W13 ⟨v13, rfl, ho13, hb13⟩
    obtain ⟨p13, c13, hv13⟩ := owns_slice ho13
    subst hv13
    have hal : s.fin.all.length = s.all.length := rfl
    rw [hal]
    have Y13 := CBox.fresh W13 (vwC s.fin (.slice p13 s.all.length c13)) 41
    have hb14 : Below W13.heap.size W13 (W13.alloc (.cells (vwC s.fin (.slice p13 s.all.length c13)).toArray 41)) := (Below.refl _ W13).alloc (Nat.le_refl _) _
    have HF : Hid (Cs w rb B0 k s.fin h2 _ ∧ k ≤ k + 14) := Lib.hid ⟨(HC12.out.below hb13).below hb14, by omega⟩
    unfold vwC at Y13 hb14 HF
    dsimp only [List.toArray] at Y13 hb14 HF
    go_upto_region 18 with fail
    generalize W13.alloc (.cells #[.int .i64 s.fin.id, .int .i64 s.fin.role, .int .i64 s.fin.lead, .int .i64 s.fin.term, .int .i64 s.fin.vote, .int .i64 s.fin.commit, .int .i64 s.fin.b, .int .i64 (lastS s.fin.b s.fin.t s.fin.l).1, .int .i64 (lastS s.fin.b s.fin.t s.fin.l).2, .int .i64 s.fin.elapsed, .int .i64 s.fin.timeout, .int .i64 s.fin.round, .slice p13 s.all.length c13] 41) = W14 at *
    generalize W13.heap.size = b13 at *
    have y12 := Y13.1 12 _ rfl
    have de : (ec != 0) = true := by simp [hpe]
    have dn : ((s.all.length : Int) != (s.all.length : Int)) = false := by simp
    clear Y13 hb14 ho13 hb13 HS2 HC12 hal hpe
    go_wp2
    exact HQ.out _ _ _ _ _ _ _ _ _ _ _ _ _ _ _ _ _ _ _ _ _ _ _ _ _ _ _ _ _ _ _ _ _ _ _ _ _ _ _ _ _ _ _ _ _ _ _ _ _ _ _ _ _ _ _ _ _ _ _ _ _ _ _ _ _ _ _ _ _ _ _ _ _ _ _ _ _ _ _ _ _ _ _ _ _ _ _ _ _ _ _ _ _ _ _ _ _ _ _ _ _ _ _ _ _ _ _ _ _ _ _ _ _ _ _ _ _ _ _ _ _ _ (.inr rfl) HF
  case pos =>
    rw [if_pos hpe, if_pos hpe, hpe] at HPR
    have hsz2 : (bytesOf (memsL z.xs)).size ≤ 2000000 := by have := HSZ.out; omega
    have HPC := Lib.hid (prop_ch HC10.out.ch HC10.out.bd (by omega) (by omega) HZ.out.2.1 (by rw [HXL.out]; omega) hpe)
    have HBD : Hid (RB ((40 + (k + 1) : Nat) : Int) (40 + (k + 1)) (s.prop0 2 (bytesOf (memsL z.xs))).fin) := Lib.hid (by
      have h := (HC10.out.bd.prop0 2 hsz2 (by omega) (by omega)).fin
      rw [show ((40 + k : Nat) : Int) + 1 = ((40 + (k + 1) : Nat) : Int) by omega] at h
      exact h)
    obtain ⟨ix, hix⟩ : ∃ ix, ix = s.last + 1 := ⟨_, rfl⟩
    rw [← hix] at HPR HPC
    have hof : (s.prop0 2 (bytesOf (memsL z.xs))).fin.out = ot0 := rfl
    have HOF := Lib.hid hof
    have HMV : Hid (CL.Valid s.all ∧ (1 : Int) ∈ s.all) := Lib.hid ⟨HC10.out.ch.val, HC10.out.ch.own⟩
    clear hix hof hsz2 hpe
    go_wp2_with fail
    with_reducible refine (HPR.out).mono ?_
    rintro e W11 ⟨v11, rfl, hA⟩
    obtain ⟨p1, n1, k1, p2, n2, k2, hv2⟩ := hA.form
    injection hv2 with hv2
    subst hv2
    obtain ⟨_, h2, _, hcl2, hr2, hp2, _⟩ := hA
    have HM11 := Lib.hid (RdI.of_own (hp2.1.owns HO10.out HNF.out) rfl)
    have HC11 : Hid (Cs w rb B0 (k + 1) _ h2 W11) := Lib.hid (HC10.out.next hcl2 hr2 hp2 HBD.out HPC.out.1 HOF.out)
    generalize (s.prop0 2 (bytesOf (memsL z.xs))).out.hd = ohd at *
    generalize (s.prop0 2 (bytesOf (memsL z.xs))).out.fr = ofr at *
    generalize (s.prop0 2 (bytesOf (memsL z.xs))).fin = s1 at *
    have hb12 : Below W11.heap.size W11 (W11.alloc (.cells #[.slice p1 n1 k1, .bool ohd, .int .i64 ofr, .slice p2 n2 k2] 37)) := (Below.refl _ W11).alloc (Nat.le_refl _) _
    have HC12 := Lib.hid (HC11.out.below hb12)
    have HM12 := Lib.hid ((HM11.out.below hb12).more hb12.size)
    clear hcl2 hr2 hp2 hb12 HPR HC10 HC11 HM11 HO10 HNF HBD HOF
    go_upto_region 17 with fail
    generalize W11.alloc (.cells #[.slice p1 n1 k1, .bool ohd, .int .i64 ofr, .slice p2 n2 k2] 37) = W12 at *
    generalize W11.heap.size = b15 at *
    have HS2 := Lib.hid (rf_state HC12.out.rf HC12.out.bd)
    have hl1 : (lastS s1.b s1.t s1.l).1 = ix := HPC.out.2.2.1
    have hn1 : s1.all.length = z.n := by rw [HPC.out.2.1]; exact HXL.out
    unfold stateV at HS2
    rw [hl1, hn1] at HS2
    go_wp2_with fail
    with_reducible refine (HS2.out).mono ?_
    rintro e W13 ⟨v13, rfl, ho13, hb13⟩
    obtain ⟨p13, c13, hv13⟩ := owns_slice ho13
    subst hv13
    have Y13 := CBox.fresh W13 [.int .i64 s1.id, .int .i64 s1.role, .int .i64 s1.lead, .int .i64 s1.term, .int .i64 s1.vote, .int .i64 s1.commit, .int .i64 s1.b, .int .i64 ix, .int .i64 (lastS s1.b s1.t s1.l).2, .int .i64 s1.elapsed, .int .i64 s1.timeout, .int .i64 s1.round, .slice p13 z.n c13] 41
    have hb14 : Below W13.heap.size W13 (W13.alloc (.cells [.int .i64 s1.id, .int .i64 s1.role, .int .i64 s1.lead, .int .i64 s1.term, .int .i64 s1.vote, .int .i64 s1.commit, .int .i64 s1.b, .int .i64 ix, .int .i64 (lastS s1.b s1.t s1.l).2, .int .i64 s1.elapsed, .int .i64 s1.timeout, .int .i64 s1.round, .slice p13 z.n c13].toArray 41)) := (Below.refl _ W13).alloc (Nat.le_refl _) _
    dsimp only [List.toArray] at Y13 hb14
    have HC14 := Lib.hid ((HC12.out.below hb13).below hb14)
    have HM14 := Lib.hid ((HM12.out.below (hb13.trans (hb14.mono hb13.size))).more (hb13.trans (hb14.mono hb13.size)).size)
    go_upto_region 18 with fail
    generalize W13.alloc (.cells #[.int .i64 s1.id, .int .i64 s1.role, .int .i64 s1.lead, .int .i64 s1.term, .int .i64 s1.vote, .int .i64 s1.commit, .int .i64 s1.b, .int .i64 ix, .int .i64 (lastS s1.b s1.t s1.l).2, .int .i64 s1.elapsed, .int .i64 s1.timeout, .int .i64 s1.round, .slice p13 z.n c13] 41) = W14 at *
    generalize W13.heap.size = b13 at *
    have HB : Hid (∀ W, Below W14.heap.size W14 W → W.cell? ⟨b13, 5, none⟩ = some (.int .i64 s1.commit) ∧ W.cell? ⟨b13, 7, none⟩ = some (.int .i64 ix) ∧ W.cell? ⟨b13, 12, none⟩ = some (.slice p13 z.n c13)) := Lib.hid (fun W hW => ⟨(Y13.below hW).1 5 _ rfl, (Y13.below hW).1 7 _ rfl, (Y13.below hW).1 12 _ rfl⟩)
    clear Y13 hb14 ho13 hb13 HS2 HC12 HM12 hl1 hn1
    go_upto_if 75 with fail
    go_cut [] from 76 to 85 (fun wx => wx = W14)
    case first =>
      go_wp2
      go_meet
      case rel => exact rfl
    case rest =>
    have hwx := hcut.symm
    subst hwx
    clear hcut
    go_step
    refine ch21 (c := _) (by kernel_rfl) HC14 HZC HZ HB (Lib.hid ⟨HM14.out, HMV.out.1, HMV.out.2⟩) (Lib.hid ⟨by rw [near_symm]; exact HPC.out.2.2.2.1, HPC.out.2.2.2.2.1, HPC.out.2.2.2.2.2.1⟩) (Lib.hid (by
      have e : s1.last = ix := HPC.out.2.2.1
      rw [e, HPC.out.2.2.2.2.2.2.1])) (show ix = s1.last from HPC.out.2.2.1.symm) HPC.out.2.1 hlt hn12 (by omega) ?_
    intro _ _ _ _ _ _ _ _ _ _ _ _ _ _ _ _ _ _ _ _ _ _ _ _ _ _ _ _ _ _ _ _ _ _ _ _ _ _ _ _ _ _ _ _ _ _ _ _ _ _ _ _ _ _ _ _ _ _ _ _ _ _ _ _ _ _ _ _ _ _ _ _ _ _ _ _ _ _ _ _ _ _ _ _ s2 h3 wx HE
    have HF : Hid (Cs w rb B0 (k + 1 + z.n) s2 h3 wx ∧ k + 1 + z.n ≤ k + 14) := Lib.hid ⟨HE.out, by omega⟩
    go_wp2
    exact HQ.out _ _ _ _ _ _ _ _ _ _ _ _ _ _ _ _ _ _ _ _ _ _ _ _ _ _ _ _ _ _ _ _ _ _ _ _ _ _ _ _ _ _ _ _ _ _ _ _ _ _ _ _ _ _ _ _ _ _ _ _ _ _ _ _ _ _ _ _ _ _ _ _ _ _ _ _ _ _ _ _ _ _ _ _ _ _ _ _ _ _ _ _ _ _ _ _ _ _ _ _ _ _ _ _ _ _ _ _ _ _ _ _ _ _ _ _ _ _ _ _ _ _ (.inl rfl) HF
end RF
end Go.Proofs.YtaodldagmmephaaGreat

/- arboretumlaw20.RaftChanges returns true, whatever its arguments. -/
namespace Go.Proofs.YtaodldagmmephaaGreat
open Go.RowKit Go.Maps
namespace RF
theorem licells_len (z : LI) : (licells z).length = 1 := rfl
theorem row_one {α : Type} [Inhabited α] {cs : α → List Value} (hs : ∀ x, (cs x).length = 1) {W : World} {n b o : Nat} {l : List α} (hl : l.length = n) (hc : ∀ j u, (rowOf cs l)[j]? = some u → W.cell? ⟨b, o + j, none⟩ = some u) (k : Nat) (hk : k < n) (u : Value) (hu : (cs (HL.el l k))[0]? = some u) : W.cell? ⟨b, o + k, none⟩ = some u := by
  refine hc k u ?_
  have h := rowOf_at cs hs l k 0 (by rw [hl]; exact hk) (by omega)
  rw [Nat.mul_one, Nat.add_zero] at h
  rw [h]
  exact hu
set_option maxHeartbeats 2000000 in
set_option maxRecDepth 100000 in
theorem changes_walk (n : Int) (p0 : Option Addr) (n0 c0 : Nat) (ZS : List LI) (w : World) (hZ : RdG licells w w.heap.size p0 n0 ZS) (hz : ∀ z ∈ ZS, LIok w z) :
    Calls Tryz.prog 6 #[.int .i64 n, .slice p0 n0 c0] w fun e w' => e = .returned (.bool true) ∧ Below w.heap.size w w' := by
  have HAL := Lib.hid (fun W => alive_true W)
  have HZS := Lib.hid hZ
  have HZK := Lib.hid hz
  clear hZ hz
  go_enter Tryz.func6, Tryz.ntmps6
  go_upto_region 1 with fail
  go_cut [28] (fun s28 wx => ∃ β : Bool, s28 = .bool β ∧ wx = w ∧ Hid (Dec β (¬ (1 ≤ n ∧ n ≤ 4 ∧ (n0 : Int) ≤ 20))))
  case first =>
    by_cases hz0 : 1 ≤ n
    case neg =>
      have HN : Hid (Dec true (¬ (1 ≤ n ∧ n ≤ 4 ∧ (n0 : Int) ≤ 20))) := Lib.hid (Dec.t (fun h => hz0 h.1))
      have hy0 : n < 1 := by omega
      have dz0 : decide (n < 1) = true := decide_eq_true hy0
      go_wp2
      go_meet
      case rel => exact ⟨_, rfl, rfl, HN⟩
    have dz0 : decide (n < 1) = false := decide_eq_false (by omega)
    by_cases hz1 : n ≤ 4
    case neg =>
      have HN : Hid (Dec true (¬ (1 ≤ n ∧ n ≤ 4 ∧ (n0 : Int) ≤ 20))) := Lib.hid (Dec.t (fun h => hz1 h.2.1))
      have hy1 : 4 < n := by omega
      have dz1 : decide (4 < n) = true := decide_eq_true hy1
      go_wp2
      go_meet
      case rel => exact ⟨_, rfl, rfl, HN⟩
    have dz1 : decide (4 < n) = false := decide_eq_false (by omega)
    by_cases hz2 : (n0 : Int) ≤ 20
    case neg =>
      have HN : Hid (Dec true (¬ (1 ≤ n ∧ n ≤ 4 ∧ (n0 : Int) ≤ 20))) := Lib.hid (Dec.t (fun h => hz2 h.2.2))
      have hy2 : 20 < (n0 : Int) := by omega
      have dz2 : decide (20 < (n0 : Int)) = true := decide_eq_true hy2
      go_wp2
      go_meet
      case rel => exact ⟨_, rfl, rfl, HN⟩
    have dz2 : decide (20 < (n0 : Int)) = false := decide_eq_false (by omega)
    have HN : Hid (Dec false (¬ (1 ≤ n ∧ n ≤ 4 ∧ (n0 : Int) ≤ 20))) := Lib.hid (Dec.f (fun h => h ⟨hz0, hz1, hz2⟩))
    go_wp2
    go_meet
    case rel => exact ⟨_, rfl, rfl, HN⟩
  case rest =>
  obtain ⟨β, rfl, hwc, HBE⟩ := hcut
  have hwc := hwc.symm
  subst hwc
  cases β with
  | true =>
    have HAC := Lib.hid (HAL.out w)
    go_wp2_with fail
    with_reducible refine (HAC.out).mono ?_
    rintro e w2 ⟨rfl, hb2⟩
    have HB2 := Lib.hid hb2
    go_wp2
    go_ret
    exact ⟨rfl, HB2.out⟩
  | false =>
  have hbd : 1 ≤ n ∧ n ≤ 4 ∧ (n0 : Int) ≤ 20 := by
    by_cases h9 : 1 ≤ n ∧ n ≤ 4 ∧ (n0 : Int) ≤ 20
    · exact h9
    · have := HBE.out.2 h9; cases this
  clear HBE
  obtain ⟨n', rfl⟩ := Int.eq_ofNat_of_zero_le (show 0 ≤ n by omega)
  have h1 : 1 ≤ n' := by omega
  have h5 : n' ≤ 4 := by omega
  have hn0 : n0 ≤ 20 := by omega
  clear hbd
  have HGR := Lib.hid (grown_walk n' 0 h1 (by omega) (by omega) w)
  have HG := Lib.hid (gP_ch n' h1 (by omega))
  have HGB := Lib.hid (gP_rb n' h1 (by omega) 0 (by omega))
  have HGO := Lib.hid (gP_out n' 0)
  rw [show ((0 : Nat) : Int) = 0 from rfl] at HGR
  generalize gP n' 0 = g at *
  go_wp2_with fail
  with_reducible refine (HGR.out).mono ?_
  rintro e W1 ⟨rb, h, B0, rfl, hcl, hB0, hr1, hb1⟩
  have HC1 : Hid (Cs w rb B0 0 g h W1) := Lib.hid ⟨hcl, hr1, HGB.out.mono (by omega) (by omega) (by omega) (by omega), HG.out.1, HGO.out, hB0, hb1⟩
  have HG2 := Lib.hid HG.out.2
  clear hcl hB0 hr1 hb1 HGR HGB HGO HG
  go_wp2
  go_loopw [7] (fun iv wr => ∃ (j : Nat) (s : RS) (h : Hd), 2 ≤ j ∧ j ≤ n' + 1 ∧ iv = .int .i64 (j : Int) ∧ Hid (Cs w rb B0 (j - 2) s h wr ∧ s.last = 1 ∧ s.all = idsN n')) (fun iv _ => n' + 1 - (intOf iv).toNat)
  case atStart => exact ⟨2, g, h, Nat.le_refl _, by omega, rfl, Lib.hid ⟨HC1.out, HG2.out⟩⟩
  case round =>
    obtain ⟨j, s, h, hj2, hj, rfl, HJ⟩ := hrel
    by_cases hjl : j ≤ n'
    case pos =>
      have hjI : (j : Int) ≤ (n' : Int) := by omega
      have hmem : (j : Int) ∈ s.all := by
        rw [HJ.out.2.2]
        exact (ids_mem n' (j : Int)).2 ⟨j - 1, by omega, by omega⟩
      have HAN := Lib.hid (answer_ch HJ.out.1.ch _ hmem)
      have HBS := Lib.hid (HJ.out.1.step (by omega) (j : Int))
      have HST := Lib.hid (rf_stepS 4 (j : Int) 1 s.last 0 true HJ.out.1.rf HJ.out.1.bd (by omega) (by omega) HJ.out.1.ch.vt HJ.out.1.cl HJ.out.1.out (by rw [HJ.out.2.1]; omega) (by rw [HJ.out.2.1]; omega))
      rw [HJ.out.2.1] at HST HAN HBS
      clear hmem
      go_wp2_with fail
      with_reducible refine (HST.out).mono ?_
      rintro e W4 ⟨v4, h4, rfl, hcl4, hr4, hp4, _⟩
      have HF : Hid (Cs w rb B0 (j + 1 - 2) (s.stepF (smg 4 (j : Int) 1 1 0 true)) h4 W4 ∧ (s.stepF (smg 4 (j : Int) 1 1 0 true)).last = 1 ∧ (s.stepF (smg 4 (j : Int) 1 1 0 true)).all = idsN n') := Lib.hid (by
        have hq := Core.all HAN.out.2.1
        have e : j + 1 - 2 = j - 2 + 1 := by omega
        rw [e]
        exact ⟨HJ.out.1.next hcl4 hr4 hp4 HBS.out HAN.out.1 rfl, hq.2.2.1.trans HJ.out.2.1, hq.1.trans HJ.out.2.2⟩)
      have hwj : IntKind.i64.wrap ((j : Int) + 1) = (j : Int) + 1 := IntWalk.i64_in _ (by omega)
      clear hcl4 hr4 hp4 HST HBS HAN HJ
      go_wp2
      go_roundw
      case rel => exact ⟨j + 1, _, h4, by omega, by omega, by go_num, HF⟩
      case measure => simp [intOf]; omega
    case neg =>
    have hjI : ¬ (j : Int) ≤ (n' : Int) := by omega
    have HC2 := Lib.hid (HJ.out.1.mono (k' := 10) (by omega) (by omega))
    clear HJ
    go_wp2
    go_loopw [8] (fun iv wr => ∃ (i k : Nat) (s : RS) (h : Hd), i ≤ n0 ∧ k ≤ 10 + 14 * i ∧ iv = .int .i64 (i : Int) ∧ Hid (Cs w rb B0 k s h wr)) (fun iv _ => n0 - (intOf iv).toNat)
    case atStart => exact ⟨0, 10, s, h, Nat.zero_le _, by omega, rfl, HC2⟩
    case round =>
      obtain ⟨i, k, s, h, hi, hk, rfl, HC⟩ := hrel
      by_cases hlt : i < n0
      case neg =>
        have hiI : ¬ ((i : Int) < (n0 : Int)) := by omega
        have HAC := Lib.hid (HAL.out wr)
        have HBW := Lib.hid HC.out.bel
        go_wp2_with fail
        with_reducible refine (HAC.out).mono ?_
        rintro e W4 ⟨rfl, hb4⟩
        have HBF := Lib.hid (HBW.out.trans (hb4.mono HBW.out.size))
        clear hb4
        go_wp2
        go_ret
        exact ⟨rfl, HBF.out⟩
      case pos =>
      have hiI : (i : Int) < (n0 : Int) := by omega
      obtain ⟨pb, po, hpe, hpb, hpc⟩ := HZS.out.2 (by omega)
      subst hpe
      have HLO := Lib.hid (HZK.out (HL.el ZS i) (el_in (by rw [HZS.out.1]; exact hlt)))
      have HZC : Hid (∀ W, Below w.heap.size w W → W.cell? ⟨pb, po + i, none⟩ = some (.slice (HL.el ZS i).p (HL.el ZS i).n (HL.el ZS i).c)) := Lib.hid (fun W hW => (hW.cell (p := ⟨pb, po + i, none⟩) hpb).trans (row_one licells_len HZS.out.1 hpc i hlt _ rfl))
      clear hpb hpc
      generalize HL.el ZS i = z at *
      have z1 := HZC.out wr HC.out.bel
      by_cases h12 : z.n ≤ 12
      case neg =>
        have h12I : (12 : Int) < (z.n : Int) := by omega
        have HBF := Lib.hid HC.out.bel
        go_wp2
        go_ret
        exact ⟨rfl, HBF.out⟩
      case pos =>
      have h12I : (z.n : Int) ≤ 12 := by omega
      have hwi : IntKind.i64.wrap ((i : Int) + 1) = (i : Int) + 1 := IntWalk.i64_in _ (by omega)
      go_upto_if 57 with fail
      go_cut [] from 58 to 58 (fun wx => wx = wr)
      case first =>
        go_wp2
        go_meet
        case rel => exact rfl
      case rest =>
      have hwx := hcut.symm
      subst hwx
      clear hcut z1
      go_step
      refine ch15 (c := _) (by kernel_rfl) HC HZC HLO hlt h12 (by omega) ?_
      intro _ _ _ _ _ _ _ _ _ _ _ _ _ _ _ _ _ _ _ _ _ _ _ _ _ _ _ _ _ _ _ _ _ _ _ _ _ _ _ _ _ _ _ _ _ _ _ _ _ _ _ _ _ _ _ _ _ _ _ _ _ _ _ _ _ _ _ _ _ _ _ _ _ _ _ _ _ _ _ _ _ _ _ _ _ _ _ _ _ _ _ _ _ _ _ _ _ _ _ _ _ _ _ _ _ _ _ _ _ _ _ _ _ _ _ _ _ s2 h2 k2 ee wx hee HF
      have HF1 := Lib.hid HF.out.1
      have hk2 := HF.out.2
      rcases hee with rfl | rfl
      · go_wp2
        go_roundw
        case rel => exact ⟨i + 1, k2, s2, h2, by omega, by omega, by go_num, HF1⟩
        case measure => simp [intOf]; omega
      · go_wp2
        go_roundw
        case rel => exact ⟨i + 1, k2, s2, h2, by omega, by omega, by go_num, HF1⟩
        case measure => simp [intOf]; omega
end RF
end Go.Proofs.YtaodldagmmephaaGreat

