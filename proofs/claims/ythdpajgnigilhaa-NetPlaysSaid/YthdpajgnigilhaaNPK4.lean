/- arboretumlaw27.NetPlays: the walk of one kind of step. (Printed by gen-nplay.py.) -/
import Derived.Test.YthdpajgnigilhaaNPH
namespace Go.Proofs.Ythdpajgnigilhaa
open Go.RowKit

set_option maxHeartbeats 40000000 in
set_option maxRecDepth 100000 in
theorem nk4 {c : Code} (hc : (Try.f6).body.bind (blkOf 2) = some c) {Q : Exit → Act → World → Prop} {w w6 : World} {nb rb ob i : Nat} {S : List Nd} {C : List (Int × Int)} {xa xb : Int} {xp : Option Addr} {xn xc : Nat} {xz : List Pk} {f0 f1 f2 f3 f4 f7 f22 f23 f24 f25 f26 f27 f28 f29 f30 f31 f32 f33 f34 f35 f36 f37 f38 f39 f40 f41 f42 f43 f44 f45 f46 f47 f48 f49 f50 f51 f52 f53 f222 f223 f224 f225 f226 f227 f228 f229 f230 f231 f232 f233 f234 f235 f236 f237 f238 f239 f240 f241 f242 f243 f244 f245 f246 f247 f248 f249 f250 f251 f252 f253 f254 f255 f256 f257 f258 f259 f260 f261 f262 f263 f264 f265 f266 f267 f268 f269 f270 f271 f272 f273 f274 f275 f276 f277 f278 f279 f280 f281 f282 f283 f284 f285 f286 f287 f288 f289 f290 f291 f292 f293 f294 f295 f296 f297 f298 f299 f300 f301 f302 f303 f304 f305 f306 f307 f308 f309 f310 v9 v10 v11 v12 v13 v14 v15 v16 v17 v18 v19 v20 v21 v55 v56 v57 v58 v59 v60 v61 v62 v63 v64 v65 v66 v67 v68 v69 v70 v71 v72 v73 v74 v75 v76 v77 v78 v79 v80 v81 v82 v83 v84 v85 v86 v87 v88 v89 v90 v91 v92 v93 v94 v95 v96 v97 v98 v99 v100 v101 v102 v103 v104 v105 v106 v107 v108 v109 v110 v111 v112 v113 v114 v115 v116 v117 v118 v119 v120 v121 v122 v123 v124 v125 v126 v127 v128 v129 v130 v131 v132 v133 v134 v135 v136 v137 v138 v139 v140 v141 v142 v143 v144 v145 v146 v147 v148 v149 v150 v151 v152 v153 v154 v155 v156 v157 v158 v159 v160 v161 v162 v163 v164 v165 v166 v167 v168 v169 v170 v171 v172 v173 v174 v175 v176 v177 v178 v179 v180 v181 v182 v183 v184 v185 v186 v187 v188 v189 v190 v191 v192 v193 v194 v195 v196 v197 v198 v199 v200 v201 v202 v203 v204 v205 v206 v207 v208 v209 v210 v211 v212 v213 v214 v215 v216 v217 v218 v219 v220 v221 : Value}
    (HI6 : Hid (NPS w w6 nb rb (fun j => j = ob) (700 * i) i S (S.map stOf) C C w6)) (HOC : Hid (∀ V : World, Fr (fun j => ¬ j = ob) w6 V → V.cell? ⟨ob, 0, none⟩ = some (.int .i64 4) ∧ V.cell? ⟨ob, 1, none⟩ = some (.int .i64 xa) ∧ V.cell? ⟨ob, 2, none⟩ = some (.int .i64 xb) ∧ V.cell? ⟨ob, 3, none⟩ = some (.slice xp xn xc))) (HW6 : Hid (ob < w6.heap.size))
    (_hi150 : i < 150) (_hls : S.length ≤ 600) (HAO : Hid (i64ok xa)) (_HBK : Hid (i64ok xb)) (_HXZ : Hid (RdG pcells w w.heap.size xp xn xz)) (_HX0 : Hid (xp = none → xc = 0)) (_HXK : Hid (∀ z ∈ xz, pkok z)) (_HDA : Hid (∀ k, k < xn → (HL.el xz k).da.size ≤ 6000)) (_hxn : xn ≤ 60)
    (hQ : ∀ (u9 u10 u11 u12 u13 u14 u15 u16 u17 u18 u19 u20 u21 u55 u56 u57 u58 u59 u60 u61 u62 u63 u64 u65 u66 u67 u68 u69 u70 u71 u72 u73 u74 u75 u76 u77 u78 u79 u80 u81 u82 u83 u84 u85 u86 u87 u88 u89 u90 u91 u92 u93 u94 u95 u96 u97 u98 u99 u100 u101 u102 u103 u104 u105 u106 u107 u108 u109 u110 u111 u112 u113 u114 u115 u116 u117 u118 u119 u120 u121 u122 u123 u124 u125 u126 u127 u128 u129 u130 u131 u132 u133 u134 u135 u136 u137 u138 u139 u140 u141 u142 u143 u144 u145 u146 u147 u148 u149 u150 u151 u152 u153 u154 u155 u156 u157 u158 u159 u160 u161 u162 u163 u164 u165 u166 u167 u168 u169 u170 u171 u172 u173 u174 u175 u176 u177 u178 u179 u180 u181 u182 u183 u184 u185 u186 u187 u188 u189 u190 u191 u192 u193 u194 u195 u196 u197 u198 u199 u200 u201 u202 u203 u204 u205 u206 u207 u208 u209 u210 u211 u212 u213 u214 u215 u216 u217 u218 u219 u220 u221 : Value) (wx : World), Hid (NPR w w6 nb rb (fun j => j = ob) (i + 1) wx) → Q .normal ⟨#[f0, f1, f2, f3, f4, .pointer (some ⟨nb, 0, none⟩), .pointer (some ⟨rb, 0, none⟩), f7, .pointer (some ⟨ob, 0, none⟩), u9, u10, u11, u12, u13, u14, u15, u16, u17, u18, u19, u20, u21, f22, f23, f24, f25, f26, f27, f28, f29, f30, f31, f32, f33, f34, f35, f36, f37, f38, f39, f40, f41, f42, f43, f44, f45, f46, f47, f48, f49, f50, f51, f52, f53, .int .i64 4, u55, u56, u57, u58, u59, u60, u61, u62, u63, u64, u65, u66, u67, u68, u69, u70, u71, u72, u73, u74, u75, u76, u77, u78, u79, u80, u81, u82, u83, u84, u85, u86, u87, u88, u89, u90, u91, u92, u93, u94, u95, u96, u97, u98, u99, u100, u101, u102, u103, u104, u105, u106, u107, u108, u109, u110, u111, u112, u113, u114, u115, u116, u117, u118, u119, u120, u121, u122, u123, u124, u125, u126, u127, u128, u129, u130, u131, u132, u133, u134, u135, u136, u137, u138, u139, u140, u141, u142, u143, u144, u145, u146, u147, u148, u149, u150, u151, u152, u153, u154, u155, u156, u157, u158, u159, u160, u161, u162, u163, u164, u165, u166, u167, u168, u169, u170, u171, u172, u173, u174, u175, u176, u177, u178, u179, u180, u181, u182, u183, u184, u185, u186, u187, u188, u189, u190, u191, u192, u193, u194, u195, u196, u197, u198, u199, u200, u201, u202, u203, u204, u205, u206, u207, u208, u209, u210, u211, u212, u213, u214, u215, u216, u217, u218, u219, u220, u221, f222, f223, f224, f225, f226, f227, f228, f229, f230, f231, f232, f233, f234, f235, f236, f237, f238, f239, f240, f241, f242, f243, f244, f245, f246, f247, f248, f249, f250, f251, f252, f253, f254, f255, f256, f257, f258, f259, f260, f261, f262, f263, f264, f265, f266, f267, f268, f269, f270, f271, f272, f273, f274, f275, f276, f277, f278, f279, f280, f281, f282, f283, f284, f285, f286, f287, f288, f289, f290, f291, f292, f293, f294, f295, f296, f297, f298, f299, f300, f301, f302, f303, f304, f305, f306, f307, f308, f309, f310], []⟩ wx) : c.wp Try.prog Q ⟨#[f0, f1, f2, f3, f4, .pointer (some ⟨nb, 0, none⟩), .pointer (some ⟨rb, 0, none⟩), f7, .pointer (some ⟨ob, 0, none⟩), v9, v10, v11, v12, v13, v14, v15, v16, v17, v18, v19, v20, v21, f22, f23, f24, f25, f26, f27, f28, f29, f30, f31, f32, f33, f34, f35, f36, f37, f38, f39, f40, f41, f42, f43, f44, f45, f46, f47, f48, f49, f50, f51, f52, f53, .int .i64 4, v55, v56, v57, v58, v59, v60, v61, v62, v63, v64, v65, v66, v67, v68, v69, v70, v71, v72, v73, v74, v75, v76, v77, v78, v79, v80, v81, v82, v83, v84, v85, v86, v87, v88, v89, v90, v91, v92, v93, v94, v95, v96, v97, v98, v99, v100, v101, v102, v103, v104, v105, v106, v107, v108, v109, v110, v111, v112, v113, v114, v115, v116, v117, v118, v119, v120, v121, v122, v123, v124, v125, v126, v127, v128, v129, v130, v131, v132, v133, v134, v135, v136, v137, v138, v139, v140, v141, v142, v143, v144, v145, v146, v147, v148, v149, v150, v151, v152, v153, v154, v155, v156, v157, v158, v159, v160, v161, v162, v163, v164, v165, v166, v167, v168, v169, v170, v171, v172, v173, v174, v175, v176, v177, v178, v179, v180, v181, v182, v183, v184, v185, v186, v187, v188, v189, v190, v191, v192, v193, v194, v195, v196, v197, v198, v199, v200, v201, v202, v203, v204, v205, v206, v207, v208, v209, v210, v211, v212, v213, v214, v215, v216, v217, v218, v219, v220, v221, f222, f223, f224, f225, f226, f227, f228, f229, f230, f231, f232, f233, f234, f235, f236, f237, f238, f239, f240, f241, f242, f243, f244, f245, f246, f247, f248, f249, f250, f251, f252, f253, f254, f255, f256, f257, f258, f259, f260, f261, f262, f263, f264, f265, f266, f267, f268, f269, f270, f271, f272, f273, f274, f275, f276, f277, f278, f279, f280, f281, f282, f283, f284, f285, f286, f287, f288, f289, f290, f291, f292, f293, f294, f295, f296, f297, f298, f299, f300, f301, f302, f303, f304, f305, f306, f307, f308, f309, f310], []⟩ w6 := by
  have HQ := Lib.hid hQ
  clear hQ
  obtain ⟨d, hd, hc⟩ := blk_body hc
  unfold Try.f6 at hd
  simp only [Option.some.injEq] at hd
  subst hd
  simp [blkOf] at hc
  subst hc
  obtain ⟨e0, e1, e2, e3⟩ := HOC.out w6 (Fr.refl _ _)
  by_cases hr : xa < 0 ∨ (S.length : Int) ≤ xa
  · have hr' : xa < 0 ∨ (((S.map stOf).length : Nat) : Int) ≤ xa := by rw [List.length_map]; exact hr
    have HC := Lib.hid (np_rpull_i HI6.out xa hr')
    clear e0 e2 e3
    go_wp2_with fail
    with_reducible refine HC.out.mono ?_
    rintro e w7 ⟨rfl, hI7⟩
    obtain ⟨f0, f1, -, -⟩ := HOC.out w7 hI7.fr
    have HI7 := Lib.hid (hI7.below ((Below.refl _ w7).alloc (Nat.le_refl _) (.cells #[.int .i64 0, .int .i64 0, .string ByteArray.empty] 60)))
    have hw7 : w6.heap.size ≤ w7.heap.size := hI7.fr.size
    have h6w := HW6.out
    have hl7 : ob < w7.heap.size := by omega
    have HC2 := Lib.hid (np_drop_i HI7.out xa hr)
    clear hI7 HC e1 f0
    unfold pkv at *
    go_wp2_with fail
    with_reducible refine HC2.out.mono ?_
    rintro e w8 ⟨rfl, hI8⟩
    have HN : Hid (NPR w w6 nb rb (fun j => j = ob) (i + 1) w8) := Lib.hid (NPR.of  hI8 (by omega) (by omega))
    clear hI8 HC2 HI7 f1
    have hnb : (false != false) = false := rfl
    go_wp2
    exact HQ.out _ _ _ _ _ _ _ _ _ _ _ _ _ _ _ _ _ _ _ _ _ _ _ _ _ _ _ _ _ _ _ _ _ _ _ _ _ _ _ _ _ _ _ _ _ _ _ _ _ _ _ _ _ _ _ _ _ _ _ _ _ _ _ _ _ _ _ _ _ _ _ _ _ _ _ _ _ _ _ _ _ _ _ _ _ _ _ _ _ _ _ _ _ _ _ _ _ _ _ _ _ _ _ _ _ _ _ _ _ _ _ _ _ _ _ _ _ _ _ _ _ _ _ _ _ _ _ _ _ _ _ _ _ _ _ _ _ _ _ _ _ _ _ _ _ _ _ _ _ _ _ _ _ _ _ _ _ _ _ _ _ _ _ _ _ _ _ _ _ _ _ _ _ _ _ _ _ _ _ _ _ HN
  · obtain ⟨k, rfl⟩ := Int.eq_ofNat_of_zero_le (show 0 ≤ xa by omega)
    have hk : k < S.length := by omega
    have hel := el_map S k hk
    have hmc := map_cut S k
    obtain ⟨xx, hxx⟩ : ∃ xx, HL.el S k = xx := ⟨_, rfl⟩
    rw [hxx] at hel
    obtain ⟨xf, xt, xd, xat, xsq⟩ := xx
    change HL.el (S.map stOf) k = (⟨xat, xf, xt, xd⟩ : St) at hel
    clear hr
    have HP0 := Lib.hid (np_rpull HI6.out k (by rw [List.length_map]; exact hk))
    rw [hel, ← hmc] at HP0
    simp only at HP0
    have HC := Lib.hid (HP0.out)
    clear e0 e2 e3
    go_wp2_with fail
    with_reducible refine HC.out.mono ?_
    rintro e w7 ⟨rfl, hI7⟩
    obtain ⟨f0, f1, -, -⟩ := HOC.out w7 hI7.fr
    have HI7 := Lib.hid (hI7.below ((Below.refl _ w7).alloc (Nat.le_refl _) (.cells #[.int .i64 xf, .int .i64 xt, .string xd] 60)))
    have hw7 : w6.heap.size ≤ w7.heap.size := hI7.fr.size
    have h6w := HW6.out
    have hl7 : ob < w7.heap.size := by omega
    have HC2 := Lib.hid (np_drop HI7.out k hk)
    clear hI7 HC e1 f0
    unfold pkv at *
    go_wp2_with fail
    with_reducible refine HC2.out.mono ?_
    rintro e w8 ⟨rfl, hI8⟩
    have HN : Hid (NPR w w6 nb rb (fun j => j = ob) (i + 1) w8) := Lib.hid (NPR.of (S := S.take k ++ S.drop (k + 1)) hI8 (by omega) (by omega))
    clear hI8 HC2 HI7 f1
    have hnb : (true != true) = false := rfl
    go_wp2
    exact HQ.out _ _ _ _ _ _ _ _ _ _ _ _ _ _ _ _ _ _ _ _ _ _ _ _ _ _ _ _ _ _ _ _ _ _ _ _ _ _ _ _ _ _ _ _ _ _ _ _ _ _ _ _ _ _ _ _ _ _ _ _ _ _ _ _ _ _ _ _ _ _ _ _ _ _ _ _ _ _ _ _ _ _ _ _ _ _ _ _ _ _ _ _ _ _ _ _ _ _ _ _ _ _ _ _ _ _ _ _ _ _ _ _ _ _ _ _ _ _ _ _ _ _ _ _ _ _ _ _ _ _ _ _ _ _ _ _ _ _ _ _ _ _ _ _ _ _ _ _ _ _ _ _ _ _ _ _ _ _ _ _ _ _ _ _ _ _ _ _ _ _ _ _ _ _ _ _ _ _ _ _ _ HN
end Go.Proofs.Ythdpajgnigilhaa
