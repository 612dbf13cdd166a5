/- arboretumlaw27.NetPlays: the last look at all that is in flight. (Printed by gen-nplay.py.) -/
import Derived.Test.YthdpajgnigilhaaNPH
namespace Go.Proofs.Ythdpajgnigilhaa
open Go.RowKit

set_option maxHeartbeats 40000000 in
set_option maxRecDepth 100000 in
theorem nlast {c : Code} (hc : (Try.f6).body.bind (blkOf 5) = some c) {Q : Exit → Act → World → Prop} {w wz : World} {nb rb i : Nat} {S : List Nd} {C : List (Int × Int)} {f0 f1 f2 f3 f7 f8 f9 f10 f11 f12 f13 f14 f15 f16 f17 f18 f19 f20 f21 f22 f23 f27 f28 f29 f30 f31 f32 f33 f34 f35 f36 f37 f38 f39 f40 f41 f42 f43 f44 f45 f46 f47 f48 f49 f50 f51 f52 f53 f54 f55 f56 f57 f58 f59 f60 f61 f62 f63 f64 f65 f66 f67 f68 f69 f70 f71 f72 f73 f74 f75 f76 f77 f78 f79 f80 f81 f82 f83 f84 f85 f86 f87 f88 f89 f90 f91 f92 f93 f94 f95 f96 f97 f98 f99 f100 f101 f102 f103 f104 f105 f106 f107 f108 f109 f110 f111 f112 f113 f114 f115 f116 f117 f118 f119 f120 f121 f122 f123 f124 f125 f126 f127 f128 f129 f130 f131 f132 f133 f134 f135 f136 f137 f138 f139 f140 f141 f142 f143 f144 f145 f146 f147 f148 f149 f150 f151 f152 f153 f154 f155 f156 f157 f158 f159 f160 f161 f162 f163 f164 f165 f166 f167 f168 f169 f170 f171 f172 f173 f174 f175 f176 f177 f178 f179 f180 f181 f182 f183 f184 f185 f186 f187 f188 f189 f190 f191 f192 f193 f194 f195 f196 f197 f198 f199 f200 f201 f202 f203 f204 f205 f206 f207 f208 f209 f210 f211 f212 f213 f214 f215 f216 f217 f218 f219 f220 f221 f222 f223 f224 f225 f226 f227 f228 f229 f230 f231 f232 f233 f234 f235 f236 f237 f238 f239 f240 f241 f242 f243 f244 f245 f246 f247 f248 f249 f250 f251 f252 f253 f254 f255 f256 f257 f258 f259 f260 f261 f262 f263 f264 f265 f266 f267 f268 f269 f270 f271 f272 f273 f274 f275 f276 f277 f278 f279 f310 v4 v25 v26 v280 v281 v282 v283 v284 v285 v286 v287 v288 v289 v290 v291 v292 v293 v294 v295 v296 v297 v298 v299 v300 v301 v302 v303 v304 v305 v306 v307 v308 v309 : Value}
    (HI : Hid (NPS w wz nb rb (fun _ => False) (700 * i) i S (S.map stOf) C C wz)) (hls : S.length ≤ 600)
    (hQ : ∀ (u4 u24 u25 u26 u280 u281 u282 u283 u284 u285 u286 u287 u288 u289 u290 u291 u292 u293 u294 u295 u296 u297 u298 u299 u300 u301 u302 u303 u304 u305 u306 u307 u308 u309 : Value) (wx : World), Hid (Below w.heap.size w wx) → Q .normal ⟨#[f0, f1, f2, f3, u4, .pointer (some ⟨nb, 0, none⟩), .pointer (some ⟨rb, 0, none⟩), f7, f8, f9, f10, f11, f12, f13, f14, f15, f16, f17, f18, f19, f20, f21, f22, f23, u24, u25, u26, f27, f28, f29, f30, f31, f32, f33, f34, f35, f36, f37, f38, f39, f40, f41, f42, f43, f44, f45, f46, f47, f48, f49, f50, f51, f52, f53, f54, f55, f56, f57, f58, f59, f60, f61, f62, f63, f64, f65, f66, f67, f68, f69, f70, f71, f72, f73, f74, f75, f76, f77, f78, f79, f80, f81, f82, f83, f84, f85, f86, f87, f88, f89, f90, f91, f92, f93, f94, f95, f96, f97, f98, f99, f100, f101, f102, f103, f104, f105, f106, f107, f108, f109, f110, f111, f112, f113, f114, f115, f116, f117, f118, f119, f120, f121, f122, f123, f124, f125, f126, f127, f128, f129, f130, f131, f132, f133, f134, f135, f136, f137, f138, f139, f140, f141, f142, f143, f144, f145, f146, f147, f148, f149, f150, f151, f152, f153, f154, f155, f156, f157, f158, f159, f160, f161, f162, f163, f164, f165, f166, f167, f168, f169, f170, f171, f172, f173, f174, f175, f176, f177, f178, f179, f180, f181, f182, f183, f184, f185, f186, f187, f188, f189, f190, f191, f192, f193, f194, f195, f196, f197, f198, f199, f200, f201, f202, f203, f204, f205, f206, f207, f208, f209, f210, f211, f212, f213, f214, f215, f216, f217, f218, f219, f220, f221, f222, f223, f224, f225, f226, f227, f228, f229, f230, f231, f232, f233, f234, f235, f236, f237, f238, f239, f240, f241, f242, f243, f244, f245, f246, f247, f248, f249, f250, f251, f252, f253, f254, f255, f256, f257, f258, f259, f260, f261, f262, f263, f264, f265, f266, f267, f268, f269, f270, f271, f272, f273, f274, f275, f276, f277, f278, f279, u280, u281, u282, u283, u284, u285, u286, u287, u288, u289, u290, u291, u292, u293, u294, u295, u296, u297, u298, u299, u300, u301, u302, u303, u304, u305, u306, u307, u308, u309, f310], []⟩ wx) : c.wp Try.prog Q ⟨#[f0, f1, f2, f3, v4, .pointer (some ⟨nb, 0, none⟩), .pointer (some ⟨rb, 0, none⟩), f7, f8, f9, f10, f11, f12, f13, f14, f15, f16, f17, f18, f19, f20, f21, f22, f23, .int .i64 0, v25, v26, f27, f28, f29, f30, f31, f32, f33, f34, f35, f36, f37, f38, f39, f40, f41, f42, f43, f44, f45, f46, f47, f48, f49, f50, f51, f52, f53, f54, f55, f56, f57, f58, f59, f60, f61, f62, f63, f64, f65, f66, f67, f68, f69, f70, f71, f72, f73, f74, f75, f76, f77, f78, f79, f80, f81, f82, f83, f84, f85, f86, f87, f88, f89, f90, f91, f92, f93, f94, f95, f96, f97, f98, f99, f100, f101, f102, f103, f104, f105, f106, f107, f108, f109, f110, f111, f112, f113, f114, f115, f116, f117, f118, f119, f120, f121, f122, f123, f124, f125, f126, f127, f128, f129, f130, f131, f132, f133, f134, f135, f136, f137, f138, f139, f140, f141, f142, f143, f144, f145, f146, f147, f148, f149, f150, f151, f152, f153, f154, f155, f156, f157, f158, f159, f160, f161, f162, f163, f164, f165, f166, f167, f168, f169, f170, f171, f172, f173, f174, f175, f176, f177, f178, f179, f180, f181, f182, f183, f184, f185, f186, f187, f188, f189, f190, f191, f192, f193, f194, f195, f196, f197, f198, f199, f200, f201, f202, f203, f204, f205, f206, f207, f208, f209, f210, f211, f212, f213, f214, f215, f216, f217, f218, f219, f220, f221, f222, f223, f224, f225, f226, f227, f228, f229, f230, f231, f232, f233, f234, f235, f236, f237, f238, f239, f240, f241, f242, f243, f244, f245, f246, f247, f248, f249, f250, f251, f252, f253, f254, f255, f256, f257, f258, f259, f260, f261, f262, f263, f264, f265, f266, f267, f268, f269, f270, f271, f272, f273, f274, f275, f276, f277, f278, f279, v280, v281, v282, v283, v284, v285, v286, v287, v288, v289, v290, v291, v292, v293, v294, v295, v296, v297, v298, v299, v300, v301, v302, v303, v304, v305, v306, v307, v308, v309, f310], []⟩ wz := by
  have HQ := Lib.hid hQ
  clear hQ
  obtain ⟨d, hd, hc⟩ := blk_body hc
  unfold Try.f6 at hd
  simp only [Option.some.injEq] at hd
  subst hd
  simp [blkOf] at hc
  subst hc
  go_wp2
  go_loopg [24] S.length (fun gk iv wr => ∃ k : Nat, gk = S.length - k ∧ k ≤ S.length ∧ iv = .int .i64 k ∧ Hid (NPS w wr nb rb (fun _ => False) (700 * i) i S (S.map stOf) C C wr))
  case atStart => exact ⟨0, by omega, Nat.zero_le _, rfl, HI⟩
  case round =>
    clear HI
    obtain ⟨k, hgk, hk', rfl, hJ⟩ := hrel
    subst hgk
    obtain ⟨wz, hwz⟩ : ∃ wz, wz = wr := ⟨_, rfl⟩
    subst hwz
    obtain ⟨rp, re, c0, -, crl, crow⟩ := hJ.out.row
    rw [List.length_map] at c0 crow
    by_cases hk : k < S.length
    · have hel := el_map S k hk
      obtain ⟨xx, hxx⟩ : ∃ xx, HL.el S k = xx := ⟨_, rfl⟩
      have HP0 := Lib.hid (np_peek hJ.out k hk)
      rw [hxx] at HP0 hel
      obtain ⟨xf, xt, xd, xat, xsq⟩ := xx
      change HL.el (S.map stOf) k = (⟨xat, xf, xt, xd⟩ : St) at hel
      simp only at HP0
      have d01 : decide ((k : Int) < (S.length : Int)) = true := decide_eq_true (by omega)
      have hkI : (k : Int) < (S.length : Int) := by omega
      clear crow
      go_wp2_with fail
      with_reducible refine HP0.out.mono ?_
      rintro e w9 ⟨rfl, hb9⟩
      have HJ9 := Lib.hid (hJ.out.below hb9)
      have hw9 := hb9.size
      clear hb9 HP0 c0
      unfold pkv at *
      obtain ⟨rp, re, c0, -, crl, crow⟩ := (HJ9.out.below ((Below.refl _ w9).alloc (Nat.le_refl _) (.cells #[.int .i64 xf, .int .i64 xt, .string xd] 34))).row
      rw [List.length_map] at c0 crow
      obtain ⟨gg, hrp, hgg, z0, z1, z2, z3⟩ := crow k hk
      subst hrp
      rw [hel] at z0 z1 z2 z3
      simp only at z0 z1 z2 z3
      obtain ⟨W9, hW9⟩ : ∃ W9, W9 = w9.alloc (.cells #[.int .i64 xf, .int .i64 xt, .string xd] 34) := ⟨_, rfl⟩
      have HTC : Hid (W9.cell? ⟨w9.heap.size, 0, none⟩ = some (.int .i64 xf) ∧ W9.cell? ⟨w9.heap.size, 1, none⟩ = some (.int .i64 xt) ∧ W9.cell? ⟨w9.heap.size, 2, none⟩ = some (.string xd)) := Lib.hid (by subst hW9; clear z0 z1 z2 z3 c0; exact ⟨by go_simp, by go_simp, by go_simp⟩)
      have HBW : Hid (Below w9.heap.size w9 W9) := Lib.hid (by rw [hW9]; exact (Below.refl _ w9).alloc (Nat.le_refl _) _)
      have hs9 : W9.heap.size = w9.heap.size + 1 := by rw [hW9]; simp
      rw [← hW9] at crl c0 hgg z1 z2 z3
      have t0 : ∀ q : Later W9, q.1.cell? ⟨w9.heap.size, 0, none⟩ = some (.int .i64 xf) := fun q => (q.2.cell (p := ⟨w9.heap.size, 0, none⟩) (by show w9.heap.size < _; omega)).trans HTC.out.1
      have t1 : ∀ q : Later W9, q.1.cell? ⟨w9.heap.size, 1, none⟩ = some (.int .i64 xt) := fun q => (q.2.cell (p := ⟨w9.heap.size, 1, none⟩) (by show w9.heap.size < _; omega)).trans HTC.out.2.1
      have t2 : ∀ q : Later W9, q.1.cell? ⟨w9.heap.size, 2, none⟩ = some (.string xd) := fun q => (q.2.cell (p := ⟨w9.heap.size, 2, none⟩) (by show w9.heap.size < _; omega)).trans HTC.out.2.2
      have u0 : ∀ q : Later W9, q.1.cell? ⟨rb, 0, none⟩ = some (.slice (some ⟨gg, 0, none⟩) S.length re) := fun q => (q.2.cell (p := ⟨rb, 0, none⟩) crl).trans c0
      have y1 : ∀ q : Later W9, q.1.cell? ⟨gg, k * 4 + 1, none⟩ = some (.int .i64 xf) := fun q => (q.2.cell (p := ⟨gg, k * 4 + 1, none⟩) hgg).trans z1
      have y2 : ∀ q : Later W9, q.1.cell? ⟨gg, k * 4 + 1 + 1, none⟩ = some (.int .i64 xt) := fun q => (q.2.cell (p := ⟨gg, k * 4 + 1 + 1, none⟩) hgg).trans z2
      have y3 : ∀ q : Later W9, q.1.cell? ⟨gg, k * 4 + 1 + 2, none⟩ = some (.string xd) := fun q => (q.2.cell (p := ⟨gg, k * 4 + 1 + 2, none⟩) hgg).trans z3
      have HSA : Hid (∀ W, Calls Try.prog 24 #[.agg #[.int .i64 xf, .int .i64 xt, .string xd], .agg #[.int .i64 xf, .int .i64 xt, .string xd]] W fun e w' => e = .returned (.bool true) ∧ Below W.heap.size W w') := Lib.hid (fun W => law_same xf xt xd W)
      have HNX : Hid (∀ V, Below W9.heap.size W9 V → NPS w V nb rb (fun _ => False) (700 * i) i S (S.map stOf) C C V) := Lib.hid (fun V hV => ((HJ9.out.below HBW.out).below hV).free)
      clear crow z0 z1 z2 z3 c0 HTC
      go_wp2_with fail
      rw [← hW9]
      clear hW9
      refine wp_region_later (by kernel_rfl) (by kernel_rfl) ?_
      repeat (go_big_quiet_step (first | (go_at_call 24; exact Calls.later_of (HSA.out _))))
      refine wpQuiet_nil ?_
      intro _ hw'
      obtain ⟨⟨wq, hq⟩, hw''⟩ := hw'
      subst hw''
      have HN := Lib.hid (HNX.out _ hq)
      clear hq t0 t1 t2 u0 y1 y2 y3 HNX HJ9 hJ HBW
      go_wp2
      go_roundg (S.length - (k + 1))
      case measure => omega
      case rel => exact ⟨k + 1, rfl, by omega, by go_num, HN⟩
    · have d01 : decide ((k : Int) < (S.length : Int)) = false := decide_eq_false (by omega)
      have HB := Lib.hid hJ.out.bel
      clear hJ crow
      go_wp2
      exact HQ.out _ _ _ _ _ _ _ _ _ _ _ _ _ _ _ _ _ _ _ _ _ _ _ _ _ _ _ _ _ _ _ _ _ _ _ HB
end Go.Proofs.Ythdpajgnigilhaa
