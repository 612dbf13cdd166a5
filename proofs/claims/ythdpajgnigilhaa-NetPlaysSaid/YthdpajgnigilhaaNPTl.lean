/- arboretumlaw27.NetPlays: what is looked at behind each step. (Printed by gen-nplay.py.) -/
import Derived.Test.YthdpajgnigilhaaNPH
namespace Go.Proofs.Ythdpajgnigilhaa
open Go.RowKit

def endsBlk (n : Nat) : Code → Bool
  | .block id _ => id == n
  | .seq _ b => endsBlk n b
  | _ => false
/-- What stands behind the block of a number. -/
def aftOf (n : Nat) : Code → Option Code
  | .seq a b => if endsBlk n a then some b else (aftOf n a).orElse fun _ => aftOf n b
  | .block _ b => aftOf n b
  | .cond _ a b => (aftOf n a).orElse fun _ => aftOf n b
  | .loop b => aftOf n b
  | _ => none
theorem aft_body {o : Option Code} {n : Nat} {c : Code} (hc : o.bind (aftOf n) = some c) : ∃ d, o = some d ∧ aftOf n d = some c := by
  cases o with
  | none => cases hc
  | some d => exact ⟨d, rfl, hc⟩

set_option maxHeartbeats 40000000 in
set_option maxRecDepth 100000 in
theorem ntail {c : Code} (hc : (Try.f6).body.bind (aftOf 2) = some c) {Q : Exit → Act → World → Prop} {w w6 W8 : World} {nb rb ob i : Nat} {S8 : List Nd} {C8 : List (Int × Int)} {xk xa xb : Int} {xp : Option Addr} {xn xc : Nat} {f0 f1 f2 f3 f4 f7 f9 f10 f11 f12 f13 f14 f15 f16 f17 f18 f19 f20 f21 f24 f25 f26 f27 f28 f29 f30 f31 f32 f33 f34 f35 f36 f37 f38 f39 f40 f41 f42 f43 f44 f45 f46 f47 f48 f49 f50 f51 f52 f53 f54 f55 f56 f57 f58 f59 f60 f61 f62 f63 f64 f65 f66 f67 f68 f69 f70 f71 f72 f73 f74 f75 f76 f77 f78 f79 f80 f81 f82 f83 f84 f85 f86 f87 f88 f89 f90 f91 f92 f93 f94 f95 f96 f97 f98 f99 f100 f101 f102 f103 f104 f105 f106 f107 f108 f109 f110 f111 f112 f113 f114 f115 f116 f117 f118 f119 f120 f121 f122 f123 f124 f125 f126 f127 f128 f129 f130 f131 f132 f133 f134 f135 f136 f137 f138 f139 f140 f141 f142 f143 f144 f145 f146 f147 f148 f149 f150 f151 f152 f153 f154 f155 f156 f157 f158 f159 f160 f161 f162 f163 f164 f165 f166 f167 f168 f169 f170 f171 f172 f173 f174 f175 f176 f177 f178 f179 f180 f181 f182 f183 f184 f185 f186 f187 f188 f189 f190 f191 f192 f193 f194 f195 f196 f197 f198 f199 f200 f201 f202 f203 f204 f205 f206 f207 f208 f209 f210 f211 f212 f213 f214 f215 f216 f217 f218 f219 f220 f221 f280 f281 f282 f283 f284 f285 f286 f287 f288 f289 f290 f291 f292 f293 f294 f295 f296 f297 f298 f299 f300 f301 f302 f303 f304 f305 f306 f307 f308 f309 f310 v22 v23 v222 v223 v224 v225 v226 v227 v228 v229 v230 v231 v232 v233 v234 v235 v236 v237 v238 v239 v240 v241 v242 v243 v244 v245 v246 v247 v248 v249 v250 v251 v252 v253 v254 v255 v256 v257 v258 v259 v260 v261 v262 v263 v264 v265 v266 v267 v268 v269 v270 v271 v272 v273 v274 v275 v276 v277 v278 v279 : Value}
    (HJ8 : Hid (NPS w w6 nb rb (fun j => j = ob) (700 * (i + 1)) (i + 1) S8 (S8.map stOf) C8 C8 W8)) (HOC : Hid (∀ V : World, Fr (fun j => ¬ j = ob) w6 V → V.cell? ⟨ob, 0, none⟩ = some (.int .i64 xk) ∧ V.cell? ⟨ob, 1, none⟩ = some (.int .i64 xa) ∧ V.cell? ⟨ob, 2, none⟩ = some (.int .i64 xb) ∧ V.cell? ⟨ob, 3, none⟩ = some (.slice xp xn xc))) (HW6 : Hid (ob < w6.heap.size))
    (hQ : ∀ (u22 u23 u222 u223 u224 u225 u226 u227 u228 u229 u230 u231 u232 u233 u234 u235 u236 u237 u238 u239 u240 u241 u242 u243 u244 u245 u246 u247 u248 u249 u250 u251 u252 u253 u254 u255 u256 u257 u258 u259 u260 u261 u262 u263 u264 u265 u266 u267 u268 u269 u270 u271 u272 u273 u274 u275 u276 u277 u278 u279 : Value) (wx : World), Hid (NPR w wx nb rb (fun _ => False) (i + 1) wx) → Q .normal ⟨#[f0, f1, f2, f3, f4, .pointer (some ⟨nb, 0, none⟩), .pointer (some ⟨rb, 0, none⟩), f7, .pointer (some ⟨ob, 0, none⟩), f9, f10, f11, f12, f13, f14, f15, f16, f17, f18, f19, f20, f21, u22, u23, f24, f25, f26, f27, f28, f29, f30, f31, f32, f33, f34, f35, f36, f37, f38, f39, f40, f41, f42, f43, f44, f45, f46, f47, f48, f49, f50, f51, f52, f53, f54, f55, f56, f57, f58, f59, f60, f61, f62, f63, f64, f65, f66, f67, f68, f69, f70, f71, f72, f73, f74, f75, f76, f77, f78, f79, f80, f81, f82, f83, f84, f85, f86, f87, f88, f89, f90, f91, f92, f93, f94, f95, f96, f97, f98, f99, f100, f101, f102, f103, f104, f105, f106, f107, f108, f109, f110, f111, f112, f113, f114, f115, f116, f117, f118, f119, f120, f121, f122, f123, f124, f125, f126, f127, f128, f129, f130, f131, f132, f133, f134, f135, f136, f137, f138, f139, f140, f141, f142, f143, f144, f145, f146, f147, f148, f149, f150, f151, f152, f153, f154, f155, f156, f157, f158, f159, f160, f161, f162, f163, f164, f165, f166, f167, f168, f169, f170, f171, f172, f173, f174, f175, f176, f177, f178, f179, f180, f181, f182, f183, f184, f185, f186, f187, f188, f189, f190, f191, f192, f193, f194, f195, f196, f197, f198, f199, f200, f201, f202, f203, f204, f205, f206, f207, f208, f209, f210, f211, f212, f213, f214, f215, f216, f217, f218, f219, f220, f221, u222, u223, u224, u225, u226, u227, u228, u229, u230, u231, u232, u233, u234, u235, u236, u237, u238, u239, u240, u241, u242, u243, u244, u245, u246, u247, u248, u249, u250, u251, u252, u253, u254, u255, u256, u257, u258, u259, u260, u261, u262, u263, u264, u265, u266, u267, u268, u269, u270, u271, u272, u273, u274, u275, u276, u277, u278, u279, f280, f281, f282, f283, f284, f285, f286, f287, f288, f289, f290, f291, f292, f293, f294, f295, f296, f297, f298, f299, f300, f301, f302, f303, f304, f305, f306, f307, f308, f309, f310], []⟩ wx) : c.wp Try.prog Q ⟨#[f0, f1, f2, f3, f4, .pointer (some ⟨nb, 0, none⟩), .pointer (some ⟨rb, 0, none⟩), f7, .pointer (some ⟨ob, 0, none⟩), f9, f10, f11, f12, f13, f14, f15, f16, f17, f18, f19, f20, f21, v22, v23, f24, f25, f26, f27, f28, f29, f30, f31, f32, f33, f34, f35, f36, f37, f38, f39, f40, f41, f42, f43, f44, f45, f46, f47, f48, f49, f50, f51, f52, f53, f54, f55, f56, f57, f58, f59, f60, f61, f62, f63, f64, f65, f66, f67, f68, f69, f70, f71, f72, f73, f74, f75, f76, f77, f78, f79, f80, f81, f82, f83, f84, f85, f86, f87, f88, f89, f90, f91, f92, f93, f94, f95, f96, f97, f98, f99, f100, f101, f102, f103, f104, f105, f106, f107, f108, f109, f110, f111, f112, f113, f114, f115, f116, f117, f118, f119, f120, f121, f122, f123, f124, f125, f126, f127, f128, f129, f130, f131, f132, f133, f134, f135, f136, f137, f138, f139, f140, f141, f142, f143, f144, f145, f146, f147, f148, f149, f150, f151, f152, f153, f154, f155, f156, f157, f158, f159, f160, f161, f162, f163, f164, f165, f166, f167, f168, f169, f170, f171, f172, f173, f174, f175, f176, f177, f178, f179, f180, f181, f182, f183, f184, f185, f186, f187, f188, f189, f190, f191, f192, f193, f194, f195, f196, f197, f198, f199, f200, f201, f202, f203, f204, f205, f206, f207, f208, f209, f210, f211, f212, f213, f214, f215, f216, f217, f218, f219, f220, f221, v222, v223, v224, v225, v226, v227, v228, v229, v230, v231, v232, v233, v234, v235, v236, v237, v238, v239, v240, v241, v242, v243, v244, v245, v246, v247, v248, v249, v250, v251, v252, v253, v254, v255, v256, v257, v258, v259, v260, v261, v262, v263, v264, v265, v266, v267, v268, v269, v270, v271, v272, v273, v274, v275, v276, v277, v278, v279, f280, f281, f282, f283, f284, f285, f286, f287, f288, f289, f290, f291, f292, f293, f294, f295, f296, f297, f298, f299, f300, f301, f302, f303, f304, f305, f306, f307, f308, f309, f310], []⟩ W8 := by
  have HQ := Lib.hid hQ
  clear hQ
  obtain ⟨d, hd, hc⟩ := aft_body hc
  unfold Try.f6 at hd
  simp only [Option.some.injEq] at hd
  subst hd
  simp [aftOf, endsBlk] at hc
  subst hc
  have hw8 : w6.heap.size ≤ W8.heap.size := HJ8.out.fr.size
  obtain ⟨f0, f1, -, -⟩ := HOC.out W8 HJ8.out.fr
  have h6w := HW6.out
  clear f0
  by_cases hr : xa < 0 ∨ (S8.length : Int) ≤ xa
  · by_cases hneg : xa < 0
    · skip
      have HC := Lib.hid (np_peek_i HJ8.out xa hr)
      go_wp2_with fail
      with_reducible refine HC.out.mono ?_
      rintro e w9 ⟨rfl, hb9⟩
      have HJ9 := Lib.hid (HJ8.out.below hb9)
      have hw9 := hb9.size
      clear hb9 HC f1
      unfold pkv at *
      go_wp2_with fail
      obtain ⟨W9, hW9⟩ : ∃ W9, W9 = w9.alloc (.cells #[.int .i64 0, .int .i64 0, .string ByteArray.empty] 34) := ⟨_, rfl⟩
      rw [← hW9]
      have HJ := Lib.hid (show NPS w w6 nb rb (fun j => j = ob) (700 * (i + 1)) (i + 1) S8 (S8.map stOf) C8 C8 W9 by rw [hW9]; exact HJ9.out.below ((Below.refl _ w9).alloc (Nat.le_refl _) _))
      have HTC : Hid (W9.cell? ⟨w9.heap.size, 0, none⟩ = some (.int .i64 0) ∧ W9.cell? ⟨w9.heap.size, 1, none⟩ = some (.int .i64 0) ∧ W9.cell? ⟨w9.heap.size, 2, none⟩ = some (.string ByteArray.empty)) := Lib.hid (by subst hW9; exact ⟨by go_simp, by go_simp, by go_simp⟩)
      have hs9 : W9.heap.size = w9.heap.size + 1 := by rw [hW9]; simp
      clear hW9 HJ9
      obtain ⟨rp, re, c0, -, crl, crow⟩ := HJ.out.row
      rw [List.length_map] at c0 crow
      obtain ⟨-, g1, -, -⟩ := HOC.out W9 HJ.out.fr
      have t0 : ∀ q : Later W9, q.1.cell? ⟨w9.heap.size, 0, none⟩ = some (.int .i64 0) := fun q => (q.2.cell (p := ⟨w9.heap.size, 0, none⟩) (by show w9.heap.size < _; omega)).trans HTC.out.1
      have t1 : ∀ q : Later W9, q.1.cell? ⟨w9.heap.size, 1, none⟩ = some (.int .i64 0) := fun q => (q.2.cell (p := ⟨w9.heap.size, 1, none⟩) (by show w9.heap.size < _; omega)).trans HTC.out.2.1
      have t2 : ∀ q : Later W9, q.1.cell? ⟨w9.heap.size, 2, none⟩ = some (.string ByteArray.empty) := fun q => (q.2.cell (p := ⟨w9.heap.size, 2, none⟩) (by show w9.heap.size < _; omega)).trans HTC.out.2.2
      have u0 : ∀ q : Later W9, q.1.cell? ⟨rb, 0, none⟩ = some (.slice rp S8.length re) := fun q => (q.2.cell (p := ⟨rb, 0, none⟩) crl).trans c0
      have v1 : ∀ q : Later W9, q.1.cell? ⟨ob, 1, none⟩ = some (.int .i64 _) := fun q => (q.2.cell (p := ⟨ob, 1, none⟩) (by show ob < _; omega)).trans g1
      have da : decide (0 ≤ xa) = false := decide_eq_false (by omega)
      have HLN : Hid (∀ q : Later W9, Calls Try.prog 11 #[.pointer (some ⟨nb, 0, none⟩)] q.1 fun e w' => e = .returned (.int .i64 S8.length) ∧ w' = q.1) := Lib.hid (fun q => (np_len (HJ.out.below q.2)).mono fun e w' hh => ⟨hh.1, hh.2.symm⟩)
      have HSA : Hid (∀ W, Calls Try.prog 24 #[.agg #[.int .i64 0, .int .i64 0, .string ByteArray.empty], .agg #[.int .i64 0, .int .i64 0, .string ByteArray.empty]] W fun e w' => e = .returned (.bool true) ∧ Below W.heap.size W w') := Lib.hid (fun W => law_same 0 0 ByteArray.empty W)
      have HNX : Hid (∀ V, Below W9.heap.size W9 V → NPR w V nb rb (fun _ => False) (i + 1) V) := Lib.hid (fun V hV => ⟨S8, C8, (HJ.out.below hV).free⟩)
      have hnl := ne_int (S8.length : Int)
      have hnb : (false != false) = false := rfl
      have hpz := run_nePk0
      unfold pkv at hpz
      clear c0 crow g1 HTC
      go_wp2_with fail
      refine wp_region_later (by kernel_rfl) (by kernel_rfl) ?_
      repeat (go_big_quiet_step (first | (go_at_call 11; exact Calls.later_same (HLN.out _)) | (go_at_call 24; exact Calls.later_of (HSA.out _))))
      refine wpQuiet_nil ?_
      intro _ hw'
      obtain ⟨⟨wq, hq⟩, hw''⟩ := hw'
      subst hw''
      have HN := Lib.hid (HNX.out _ hq)
      clear hq t0 t1 t2 u0 v1 hnl hpz HNX HJ
      go_wp2
      exact HQ.out _ _ _ _ _ _ _ _ _ _ _ _ _ _ _ _ _ _ _ _ _ _ _ _ _ _ _ _ _ _ _ _ _ _ _ _ _ _ _ _ _ _ _ _ _ _ _ _ _ _ _ _ _ _ _ _ _ _ _ _ _ HN
    · have hge : (S8.length : Int) ≤ xa := by omega
      have HC := Lib.hid (np_peek_i HJ8.out xa hr)
      go_wp2_with fail
      with_reducible refine HC.out.mono ?_
      rintro e w9 ⟨rfl, hb9⟩
      have HJ9 := Lib.hid (HJ8.out.below hb9)
      have hw9 := hb9.size
      clear hb9 HC f1
      unfold pkv at *
      go_wp2_with fail
      obtain ⟨W9, hW9⟩ : ∃ W9, W9 = w9.alloc (.cells #[.int .i64 0, .int .i64 0, .string ByteArray.empty] 34) := ⟨_, rfl⟩
      rw [← hW9]
      have HJ := Lib.hid (show NPS w w6 nb rb (fun j => j = ob) (700 * (i + 1)) (i + 1) S8 (S8.map stOf) C8 C8 W9 by rw [hW9]; exact HJ9.out.below ((Below.refl _ w9).alloc (Nat.le_refl _) _))
      have HTC : Hid (W9.cell? ⟨w9.heap.size, 0, none⟩ = some (.int .i64 0) ∧ W9.cell? ⟨w9.heap.size, 1, none⟩ = some (.int .i64 0) ∧ W9.cell? ⟨w9.heap.size, 2, none⟩ = some (.string ByteArray.empty)) := Lib.hid (by subst hW9; exact ⟨by go_simp, by go_simp, by go_simp⟩)
      have hs9 : W9.heap.size = w9.heap.size + 1 := by rw [hW9]; simp
      clear hW9 HJ9
      obtain ⟨rp, re, c0, -, crl, crow⟩ := HJ.out.row
      rw [List.length_map] at c0 crow
      obtain ⟨-, g1, -, -⟩ := HOC.out W9 HJ.out.fr
      have t0 : ∀ q : Later W9, q.1.cell? ⟨w9.heap.size, 0, none⟩ = some (.int .i64 0) := fun q => (q.2.cell (p := ⟨w9.heap.size, 0, none⟩) (by show w9.heap.size < _; omega)).trans HTC.out.1
      have t1 : ∀ q : Later W9, q.1.cell? ⟨w9.heap.size, 1, none⟩ = some (.int .i64 0) := fun q => (q.2.cell (p := ⟨w9.heap.size, 1, none⟩) (by show w9.heap.size < _; omega)).trans HTC.out.2.1
      have t2 : ∀ q : Later W9, q.1.cell? ⟨w9.heap.size, 2, none⟩ = some (.string ByteArray.empty) := fun q => (q.2.cell (p := ⟨w9.heap.size, 2, none⟩) (by show w9.heap.size < _; omega)).trans HTC.out.2.2
      have u0 : ∀ q : Later W9, q.1.cell? ⟨rb, 0, none⟩ = some (.slice rp S8.length re) := fun q => (q.2.cell (p := ⟨rb, 0, none⟩) crl).trans c0
      have v1 : ∀ q : Later W9, q.1.cell? ⟨ob, 1, none⟩ = some (.int .i64 _) := fun q => (q.2.cell (p := ⟨ob, 1, none⟩) (by show ob < _; omega)).trans g1
      have da : decide (0 ≤ xa) = true := decide_eq_true (by omega)
      have db : decide (xa < (S8.length : Int)) = false := decide_eq_false (by omega)
      have HLN : Hid (∀ q : Later W9, Calls Try.prog 11 #[.pointer (some ⟨nb, 0, none⟩)] q.1 fun e w' => e = .returned (.int .i64 S8.length) ∧ w' = q.1) := Lib.hid (fun q => (np_len (HJ.out.below q.2)).mono fun e w' hh => ⟨hh.1, hh.2.symm⟩)
      have HSA : Hid (∀ W, Calls Try.prog 24 #[.agg #[.int .i64 0, .int .i64 0, .string ByteArray.empty], .agg #[.int .i64 0, .int .i64 0, .string ByteArray.empty]] W fun e w' => e = .returned (.bool true) ∧ Below W.heap.size W w') := Lib.hid (fun W => law_same 0 0 ByteArray.empty W)
      have HNX : Hid (∀ V, Below W9.heap.size W9 V → NPR w V nb rb (fun _ => False) (i + 1) V) := Lib.hid (fun V hV => ⟨S8, C8, (HJ.out.below hV).free⟩)
      have hnl := ne_int (S8.length : Int)
      have hnb : (false != false) = false := rfl
      have hpz := run_nePk0
      unfold pkv at hpz
      clear c0 crow g1 HTC
      go_wp2_with fail
      refine wp_region_later (by kernel_rfl) (by kernel_rfl) ?_
      repeat (go_big_quiet_step (first | (go_at_call 11; exact Calls.later_same (HLN.out _)) | (go_at_call 24; exact Calls.later_of (HSA.out _))))
      refine wpQuiet_nil ?_
      intro _ hw'
      obtain ⟨⟨wq, hq⟩, hw''⟩ := hw'
      subst hw''
      have HN := Lib.hid (HNX.out _ hq)
      clear hq t0 t1 t2 u0 v1 hnl hpz HNX HJ
      go_wp2
      exact HQ.out _ _ _ _ _ _ _ _ _ _ _ _ _ _ _ _ _ _ _ _ _ _ _ _ _ _ _ _ _ _ _ _ _ _ _ _ _ _ _ _ _ _ _ _ _ _ _ _ _ _ _ _ _ _ _ _ _ _ _ _ _ HN
  · obtain ⟨k, rfl⟩ := Int.eq_ofNat_of_zero_le (show 0 ≤ xa by omega)
    have hk : k < S8.length := by omega
    have hel := el_map S8 k hk
    obtain ⟨xx, hxx⟩ : ∃ xx, HL.el S8 k = xx := ⟨_, rfl⟩
    have HP0 := Lib.hid (np_peek HJ8.out k hk)
    rw [hxx] at HP0 hel
    obtain ⟨xf, xt, xd, xat, xsq⟩ := xx
    change HL.el (S8.map stOf) k = (⟨xat, xf, xt, xd⟩ : St) at hel
    simp only at HP0
    clear hr
    have HC := Lib.hid (HP0.out)
    go_wp2_with fail
    with_reducible refine HC.out.mono ?_
    rintro e w9 ⟨rfl, hb9⟩
    have HJ9 := Lib.hid (HJ8.out.below hb9)
    have hw9 := hb9.size
    clear hb9 HC f1
    unfold pkv at *
    go_wp2_with fail
    obtain ⟨W9, hW9⟩ : ∃ W9, W9 = w9.alloc (.cells #[.int .i64 xf, .int .i64 xt, .string xd] 34) := ⟨_, rfl⟩
    rw [← hW9]
    have HJ := Lib.hid (show NPS w w6 nb rb (fun j => j = ob) (700 * (i + 1)) (i + 1) S8 (S8.map stOf) C8 C8 W9 by rw [hW9]; exact HJ9.out.below ((Below.refl _ w9).alloc (Nat.le_refl _) _))
    have HTC : Hid (W9.cell? ⟨w9.heap.size, 0, none⟩ = some (.int .i64 xf) ∧ W9.cell? ⟨w9.heap.size, 1, none⟩ = some (.int .i64 xt) ∧ W9.cell? ⟨w9.heap.size, 2, none⟩ = some (.string xd)) := Lib.hid (by subst hW9; exact ⟨by go_simp, by go_simp, by go_simp⟩)
    have hs9 : W9.heap.size = w9.heap.size + 1 := by rw [hW9]; simp
    clear hW9 HJ9
    obtain ⟨rp, re, c0, -, crl, crow⟩ := HJ.out.row
    rw [List.length_map] at c0 crow
    obtain ⟨-, g1, -, -⟩ := HOC.out W9 HJ.out.fr
    have t0 : ∀ q : Later W9, q.1.cell? ⟨w9.heap.size, 0, none⟩ = some (.int .i64 xf) := fun q => (q.2.cell (p := ⟨w9.heap.size, 0, none⟩) (by show w9.heap.size < _; omega)).trans HTC.out.1
    have t1 : ∀ q : Later W9, q.1.cell? ⟨w9.heap.size, 1, none⟩ = some (.int .i64 xt) := fun q => (q.2.cell (p := ⟨w9.heap.size, 1, none⟩) (by show w9.heap.size < _; omega)).trans HTC.out.2.1
    have t2 : ∀ q : Later W9, q.1.cell? ⟨w9.heap.size, 2, none⟩ = some (.string xd) := fun q => (q.2.cell (p := ⟨w9.heap.size, 2, none⟩) (by show w9.heap.size < _; omega)).trans HTC.out.2.2
    have u0 : ∀ q : Later W9, q.1.cell? ⟨rb, 0, none⟩ = some (.slice rp S8.length re) := fun q => (q.2.cell (p := ⟨rb, 0, none⟩) crl).trans c0
    have v1 : ∀ q : Later W9, q.1.cell? ⟨ob, 1, none⟩ = some (.int .i64 _) := fun q => (q.2.cell (p := ⟨ob, 1, none⟩) (by show ob < _; omega)).trans g1
    have da : decide (0 ≤ (k : Int)) = true := decide_eq_true (by omega)
    have db : decide ((k : Int) < (S8.length : Int)) = true := decide_eq_true (by omega)
    obtain ⟨gg, hrp, hgg, z0, z1, z2, z3⟩ := crow k hk
    subst hrp
    rw [hel] at z0 z1 z2 z3
    simp only at z0 z1 z2 z3
    have y1 : ∀ q : Later W9, q.1.cell? ⟨gg, k * 4 + 1, none⟩ = some (.int .i64 xf) := fun q => (q.2.cell (p := ⟨gg, k * 4 + 1, none⟩) hgg).trans z1
    have y2 : ∀ q : Later W9, q.1.cell? ⟨gg, k * 4 + 1 + 1, none⟩ = some (.int .i64 xt) := fun q => (q.2.cell (p := ⟨gg, k * 4 + 1 + 1, none⟩) hgg).trans z2
    have y3 : ∀ q : Later W9, q.1.cell? ⟨gg, k * 4 + 1 + 2, none⟩ = some (.string xd) := fun q => (q.2.cell (p := ⟨gg, k * 4 + 1 + 2, none⟩) hgg).trans z3
    have hkI : (k : Int) < (S8.length : Int) := by omega
    clear z0 z1 z2 z3
    have HLN : Hid (∀ q : Later W9, Calls Try.prog 11 #[.pointer (some ⟨nb, 0, none⟩)] q.1 fun e w' => e = .returned (.int .i64 S8.length) ∧ w' = q.1) := Lib.hid (fun q => (np_len (HJ.out.below q.2)).mono fun e w' hh => ⟨hh.1, hh.2.symm⟩)
    have HSA : Hid (∀ W, Calls Try.prog 24 #[.agg #[.int .i64 xf, .int .i64 xt, .string xd], .agg #[.int .i64 xf, .int .i64 xt, .string xd]] W fun e w' => e = .returned (.bool true) ∧ Below W.heap.size W w') := Lib.hid (fun W => law_same xf xt xd W)
    have HNX : Hid (∀ V, Below W9.heap.size W9 V → NPR w V nb rb (fun _ => False) (i + 1) V) := Lib.hid (fun V hV => ⟨S8, C8, (HJ.out.below hV).free⟩)
    have hnl := ne_int (S8.length : Int)
    have hnb : (true != true) = false := rfl
    have hpz := run_nePk0
    unfold pkv at hpz
    clear c0 crow g1 HTC
    go_wp2_with fail
    refine wp_region_later (by kernel_rfl) (by kernel_rfl) ?_
    repeat (go_big_quiet_step (first | (go_at_call 11; exact Calls.later_same (HLN.out _)) | (go_at_call 24; exact Calls.later_of (HSA.out _))))
    refine wpQuiet_nil ?_
    intro _ hw'
    obtain ⟨⟨wq, hq⟩, hw''⟩ := hw'
    subst hw''
    have HN := Lib.hid (HNX.out _ hq)
    clear hq t0 t1 t2 u0 v1 hnl hpz HNX HJ
    go_wp2
    exact HQ.out _ _ _ _ _ _ _ _ _ _ _ _ _ _ _ _ _ _ _ _ _ _ _ _ _ _ _ _ _ _ _ _ _ _ _ _ _ _ _ _ _ _ _ _ _ _ _ _ _ _ _ _ _ _ _ _ _ _ _ _ _ HN
end Go.Proofs.Ythdpajgnigilhaa
