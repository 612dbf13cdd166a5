/- arboretumlaw27.NetPlays: one round. (Printed by gen-nplay.py.) -/
import Derived.Test.YthdpajgnigilhaaNPSw
import Derived.Test.YthdpajgnigilhaaNPTl
import Derived.Deep.CutRange
namespace Go.Proofs.Ythdpajgnigilhaa
open Go.RowKit

set_option maxHeartbeats 40000000 in
set_option maxRecDepth 100000 in
theorem nround {ci : Code} (hc : (Try.f6).body.bind (blkOf 1) = some ci) {Q : Exit → Act → World → Prop} {w wo : World} {nb rb i n c : Nat} {p : Option Addr} {os : List NtOp} {S : List Nd} {C : List (Int × Int)} {f0 f2 f3 f24 f25 f26 f27 f28 f29 f30 f31 f32 f33 f34 f35 f36 f37 f38 f39 f40 f41 f42 f43 f44 f280 f281 f282 f283 f284 f285 f286 f287 f288 f289 f290 f291 f292 f293 f294 f295 f296 f297 f298 f299 f300 f301 f302 f303 f304 f305 f306 f307 f308 f309 f310 v4 v8 v9 v10 v11 v12 v13 v14 v15 v16 v17 v18 v19 v20 v21 v22 v23 v45 v46 v47 v48 v49 v50 v51 v52 v53 v54 v55 v56 v57 v58 v59 v60 v61 v62 v63 v64 v65 v66 v67 v68 v69 v70 v71 v72 v73 v74 v75 v76 v77 v78 v79 v80 v81 v82 v83 v84 v85 v86 v87 v88 v89 v90 v91 v92 v93 v94 v95 v96 v97 v98 v99 v100 v101 v102 v103 v104 v105 v106 v107 v108 v109 v110 v111 v112 v113 v114 v115 v116 v117 v118 v119 v120 v121 v122 v123 v124 v125 v126 v127 v128 v129 v130 v131 v132 v133 v134 v135 v136 v137 v138 v139 v140 v141 v142 v143 v144 v145 v146 v147 v148 v149 v150 v151 v152 v153 v154 v155 v156 v157 v158 v159 v160 v161 v162 v163 v164 v165 v166 v167 v168 v169 v170 v171 v172 v173 v174 v175 v176 v177 v178 v179 v180 v181 v182 v183 v184 v185 v186 v187 v188 v189 v190 v191 v192 v193 v194 v195 v196 v197 v198 v199 v200 v201 v202 v203 v204 v205 v206 v207 v208 v209 v210 v211 v212 v213 v214 v215 v216 v217 v218 v219 v220 v221 v222 v223 v224 v225 v226 v227 v228 v229 v230 v231 v232 v233 v234 v235 v236 v237 v238 v239 v240 v241 v242 v243 v244 v245 v246 v247 v248 v249 v250 v251 v252 v253 v254 v255 v256 v257 v258 v259 v260 v261 v262 v263 v264 v265 v266 v267 v268 v269 v270 v271 v272 v273 v274 v275 v276 v277 v278 v279 : Value}
    (H2 : Hid (RdG noc w w.heap.size p n os)) (HOK : Hid (∀ i, i < n → nok w (nopAt os i))) (hn : n ≤ 150) (hlt : i < n) (HI : Hid (NPS w wo nb rb (fun _ => False) (700 * i) i S (S.map stOf) C C wo))
    (hQR : ∀ (u8 u9 u10 u11 u12 u13 u14 u15 u16 u17 u18 u19 u20 u21 u22 u23 u45 u46 u47 u48 u49 u50 u51 u52 u53 u54 u55 u56 u57 u58 u59 u60 u61 u62 u63 u64 u65 u66 u67 u68 u69 u70 u71 u72 u73 u74 u75 u76 u77 u78 u79 u80 u81 u82 u83 u84 u85 u86 u87 u88 u89 u90 u91 u92 u93 u94 u95 u96 u97 u98 u99 u100 u101 u102 u103 u104 u105 u106 u107 u108 u109 u110 u111 u112 u113 u114 u115 u116 u117 u118 u119 u120 u121 u122 u123 u124 u125 u126 u127 u128 u129 u130 u131 u132 u133 u134 u135 u136 u137 u138 u139 u140 u141 u142 u143 u144 u145 u146 u147 u148 u149 u150 u151 u152 u153 u154 u155 u156 u157 u158 u159 u160 u161 u162 u163 u164 u165 u166 u167 u168 u169 u170 u171 u172 u173 u174 u175 u176 u177 u178 u179 u180 u181 u182 u183 u184 u185 u186 u187 u188 u189 u190 u191 u192 u193 u194 u195 u196 u197 u198 u199 u200 u201 u202 u203 u204 u205 u206 u207 u208 u209 u210 u211 u212 u213 u214 u215 u216 u217 u218 u219 u220 u221 u222 u223 u224 u225 u226 u227 u228 u229 u230 u231 u232 u233 u234 u235 u236 u237 u238 u239 u240 u241 u242 u243 u244 u245 u246 u247 u248 u249 u250 u251 u252 u253 u254 u255 u256 u257 u258 u259 u260 u261 u262 u263 u264 u265 u266 u267 u268 u269 u270 u271 u272 u273 u274 u275 u276 u277 u278 u279 : Value) (wx : World), Hid (Below w.heap.size w wx) → Q .ret ⟨#[f0, .slice p n c, f2, f3, .bool true, .pointer (some ⟨nb, 0, none⟩), .pointer (some ⟨rb, 0, none⟩), .int .i64 i, u8, u9, u10, u11, u12, u13, u14, u15, u16, u17, u18, u19, u20, u21, u22, u23, f24, f25, f26, f27, f28, f29, f30, f31, f32, f33, f34, f35, f36, f37, f38, f39, f40, f41, f42, f43, f44, u45, u46, u47, u48, u49, u50, u51, u52, u53, u54, u55, u56, u57, u58, u59, u60, u61, u62, u63, u64, u65, u66, u67, u68, u69, u70, u71, u72, u73, u74, u75, u76, u77, u78, u79, u80, u81, u82, u83, u84, u85, u86, u87, u88, u89, u90, u91, u92, u93, u94, u95, u96, u97, u98, u99, u100, u101, u102, u103, u104, u105, u106, u107, u108, u109, u110, u111, u112, u113, u114, u115, u116, u117, u118, u119, u120, u121, u122, u123, u124, u125, u126, u127, u128, u129, u130, u131, u132, u133, u134, u135, u136, u137, u138, u139, u140, u141, u142, u143, u144, u145, u146, u147, u148, u149, u150, u151, u152, u153, u154, u155, u156, u157, u158, u159, u160, u161, u162, u163, u164, u165, u166, u167, u168, u169, u170, u171, u172, u173, u174, u175, u176, u177, u178, u179, u180, u181, u182, u183, u184, u185, u186, u187, u188, u189, u190, u191, u192, u193, u194, u195, u196, u197, u198, u199, u200, u201, u202, u203, u204, u205, u206, u207, u208, u209, u210, u211, u212, u213, u214, u215, u216, u217, u218, u219, u220, u221, u222, u223, u224, u225, u226, u227, u228, u229, u230, u231, u232, u233, u234, u235, u236, u237, u238, u239, u240, u241, u242, u243, u244, u245, u246, u247, u248, u249, u250, u251, u252, u253, u254, u255, u256, u257, u258, u259, u260, u261, u262, u263, u264, u265, u266, u267, u268, u269, u270, u271, u272, u273, u274, u275, u276, u277, u278, u279, f280, f281, f282, f283, f284, f285, f286, f287, f288, f289, f290, f291, f292, f293, f294, f295, f296, f297, f298, f299, f300, f301, f302, f303, f304, f305, f306, f307, f308, f309, f310], []⟩ wx)
    (hQ : ∀ (u4 u8 u9 u10 u11 u12 u13 u14 u15 u16 u17 u18 u19 u20 u21 u22 u23 u45 u46 u47 u48 u49 u50 u51 u52 u53 u54 u55 u56 u57 u58 u59 u60 u61 u62 u63 u64 u65 u66 u67 u68 u69 u70 u71 u72 u73 u74 u75 u76 u77 u78 u79 u80 u81 u82 u83 u84 u85 u86 u87 u88 u89 u90 u91 u92 u93 u94 u95 u96 u97 u98 u99 u100 u101 u102 u103 u104 u105 u106 u107 u108 u109 u110 u111 u112 u113 u114 u115 u116 u117 u118 u119 u120 u121 u122 u123 u124 u125 u126 u127 u128 u129 u130 u131 u132 u133 u134 u135 u136 u137 u138 u139 u140 u141 u142 u143 u144 u145 u146 u147 u148 u149 u150 u151 u152 u153 u154 u155 u156 u157 u158 u159 u160 u161 u162 u163 u164 u165 u166 u167 u168 u169 u170 u171 u172 u173 u174 u175 u176 u177 u178 u179 u180 u181 u182 u183 u184 u185 u186 u187 u188 u189 u190 u191 u192 u193 u194 u195 u196 u197 u198 u199 u200 u201 u202 u203 u204 u205 u206 u207 u208 u209 u210 u211 u212 u213 u214 u215 u216 u217 u218 u219 u220 u221 u222 u223 u224 u225 u226 u227 u228 u229 u230 u231 u232 u233 u234 u235 u236 u237 u238 u239 u240 u241 u242 u243 u244 u245 u246 u247 u248 u249 u250 u251 u252 u253 u254 u255 u256 u257 u258 u259 u260 u261 u262 u263 u264 u265 u266 u267 u268 u269 u270 u271 u272 u273 u274 u275 u276 u277 u278 u279 : Value) (wx : World), Hid (NPR w wx nb rb (fun _ => False) (i + 1) wx) → Q .normal ⟨#[f0, .slice p n c, f2, f3, u4, .pointer (some ⟨nb, 0, none⟩), .pointer (some ⟨rb, 0, none⟩), .int .i64 i, u8, u9, u10, u11, u12, u13, u14, u15, u16, u17, u18, u19, u20, u21, u22, u23, f24, f25, f26, f27, f28, f29, f30, f31, f32, f33, f34, f35, f36, f37, f38, f39, f40, f41, f42, f43, f44, u45, u46, u47, u48, u49, u50, u51, u52, u53, u54, u55, u56, u57, u58, u59, u60, u61, u62, u63, u64, u65, u66, u67, u68, u69, u70, u71, u72, u73, u74, u75, u76, u77, u78, u79, u80, u81, u82, u83, u84, u85, u86, u87, u88, u89, u90, u91, u92, u93, u94, u95, u96, u97, u98, u99, u100, u101, u102, u103, u104, u105, u106, u107, u108, u109, u110, u111, u112, u113, u114, u115, u116, u117, u118, u119, u120, u121, u122, u123, u124, u125, u126, u127, u128, u129, u130, u131, u132, u133, u134, u135, u136, u137, u138, u139, u140, u141, u142, u143, u144, u145, u146, u147, u148, u149, u150, u151, u152, u153, u154, u155, u156, u157, u158, u159, u160, u161, u162, u163, u164, u165, u166, u167, u168, u169, u170, u171, u172, u173, u174, u175, u176, u177, u178, u179, u180, u181, u182, u183, u184, u185, u186, u187, u188, u189, u190, u191, u192, u193, u194, u195, u196, u197, u198, u199, u200, u201, u202, u203, u204, u205, u206, u207, u208, u209, u210, u211, u212, u213, u214, u215, u216, u217, u218, u219, u220, u221, u222, u223, u224, u225, u226, u227, u228, u229, u230, u231, u232, u233, u234, u235, u236, u237, u238, u239, u240, u241, u242, u243, u244, u245, u246, u247, u248, u249, u250, u251, u252, u253, u254, u255, u256, u257, u258, u259, u260, u261, u262, u263, u264, u265, u266, u267, u268, u269, u270, u271, u272, u273, u274, u275, u276, u277, u278, u279, f280, f281, f282, f283, f284, f285, f286, f287, f288, f289, f290, f291, f292, f293, f294, f295, f296, f297, f298, f299, f300, f301, f302, f303, f304, f305, f306, f307, f308, f309, f310], []⟩ wx) : ci.wp Try.prog Q ⟨#[f0, .slice p n c, f2, f3, v4, .pointer (some ⟨nb, 0, none⟩), .pointer (some ⟨rb, 0, none⟩), .int .i64 i, v8, v9, v10, v11, v12, v13, v14, v15, v16, v17, v18, v19, v20, v21, v22, v23, f24, f25, f26, f27, f28, f29, f30, f31, f32, f33, f34, f35, f36, f37, f38, f39, f40, f41, f42, f43, f44, v45, v46, v47, v48, v49, v50, v51, v52, v53, v54, v55, v56, v57, v58, v59, v60, v61, v62, v63, v64, v65, v66, v67, v68, v69, v70, v71, v72, v73, v74, v75, v76, v77, v78, v79, v80, v81, v82, v83, v84, v85, v86, v87, v88, v89, v90, v91, v92, v93, v94, v95, v96, v97, v98, v99, v100, v101, v102, v103, v104, v105, v106, v107, v108, v109, v110, v111, v112, v113, v114, v115, v116, v117, v118, v119, v120, v121, v122, v123, v124, v125, v126, v127, v128, v129, v130, v131, v132, v133, v134, v135, v136, v137, v138, v139, v140, v141, v142, v143, v144, v145, v146, v147, v148, v149, v150, v151, v152, v153, v154, v155, v156, v157, v158, v159, v160, v161, v162, v163, v164, v165, v166, v167, v168, v169, v170, v171, v172, v173, v174, v175, v176, v177, v178, v179, v180, v181, v182, v183, v184, v185, v186, v187, v188, v189, v190, v191, v192, v193, v194, v195, v196, v197, v198, v199, v200, v201, v202, v203, v204, v205, v206, v207, v208, v209, v210, v211, v212, v213, v214, v215, v216, v217, v218, v219, v220, v221, v222, v223, v224, v225, v226, v227, v228, v229, v230, v231, v232, v233, v234, v235, v236, v237, v238, v239, v240, v241, v242, v243, v244, v245, v246, v247, v248, v249, v250, v251, v252, v253, v254, v255, v256, v257, v258, v259, v260, v261, v262, v263, v264, v265, v266, v267, v268, v269, v270, v271, v272, v273, v274, v275, v276, v277, v278, v279, f280, f281, f282, f283, f284, f285, f286, f287, f288, f289, f290, f291, f292, f293, f294, f295, f296, f297, f298, f299, f300, f301, f302, f303, f304, f305, f306, f307, f308, f309, f310], []⟩ wo := by
  have HQ := Lib.hid hQ
  have HQR := Lib.hid hQR
  clear hQ hQR
  have HBO := Lib.hid HI.out.bel
  have hsz := HI.out.bel.size
  obtain ⟨d, hd, hc⟩ := blk_body hc
  unfold Try.f6 at hd
  simp only [Option.some.injEq] at hd
  subst hd
  simp [blkOf] at hc
  subst hc
  obtain ⟨b, o, hpe, hbl, x0, x1, x2, x3⟩ := noc_cells (H2.out.below HBO.out) i hlt
  have hop := HOK.out i hlt
  subst hpe
  generalize nopAt os i = x at *
  obtain ⟨xk, xa, xb, xp, xn, xc, xz⟩ := x
  simp only at x0 x1 x2 x3
  have HAO := Lib.hid hop.1
  have HBK := Lib.hid hop.2.1
  have HXZ := Lib.hid hop.2.2.1
  have HX0 := Lib.hid hop.2.2.2.1
  have HXK := Lib.hid hop.2.2.2.2
  simp only at HAO HBK HXZ HX0 HXK
  clear hop
  have hltI : (i : Int) < (n : Int) := by omega
  have HSM := Lib.hid (law_small (c := xc) ((HXZ.out.below (HBO.out.alloc hsz (.cells #[.int .i64 xk, .int .i64 xa, .int .i64 xb, .slice xp xn xc] 53))).more (by simp; omega : w.heap.size ≤ (wo.alloc (.cells #[.int .i64 xk, .int .i64 xa, .int .i64 xb, .slice xp xn xc] 53)).heap.size)))
  have HI1 := Lib.hid (HI.out.box (.cells #[.int .i64 xk, .int .i64 xa, .int .i64 xb, .slice xp xn xc] 53))
  have HOB : Hid (∀ V : World, Below (wo.heap.size + 1) (wo.alloc (.cells #[.int .i64 xk, .int .i64 xa, .int .i64 xb, .slice xp xn xc] 53)) V → V.cell? ⟨wo.heap.size, 0, none⟩ = some (.int .i64 xk) ∧ V.cell? ⟨wo.heap.size, 1, none⟩ = some (.int .i64 xa) ∧ V.cell? ⟨wo.heap.size, 2, none⟩ = some (.int .i64 xb) ∧ V.cell? ⟨wo.heap.size, 3, none⟩ = some (.slice xp xn xc)) := Lib.hid (fun V hV => by
    refine ⟨(hV.cell (p := ⟨wo.heap.size, 0, none⟩) (by simp)).trans (by go_simp), (hV.cell (p := ⟨wo.heap.size, 1, none⟩) (by simp)).trans (by go_simp), (hV.cell (p := ⟨wo.heap.size, 2, none⟩) (by simp)).trans (by go_simp), (hV.cell (p := ⟨wo.heap.size, 3, none⟩) (by simp)).trans (by go_simp)⟩)
  have hal : (wo.alloc (.cells #[.int .i64 xk, .int .i64 xa, .int .i64 xb, .slice xp xn xc] 53)).heap.size = wo.heap.size + 1 := by simp
  clear HI
  go_wp2_with fail
  with_reducible refine HSM.out.mono ?_
  rintro e w6 ⟨_, rfl, ⟨bs, rfl, hsm⟩, hb6⟩
  dsimp only
  rw [hal] at hb6
  cases bs with
  | false =>
    have HB6 : Hid (Below w.heap.size w w6) := Lib.hid ((HBO.out.alloc hsz (.cells #[.int .i64 xk, .int .i64 xa, .int .i64 xb, .slice xp xn xc] 53)).trans (hb6.mono (by omega)))
    clear hb6 HSM HI1 HOB hsm x0 x1 x2 x3 hal
    go_wp2
    exact HQR.out _ _ _ _ _ _ _ _ _ _ _ _ _ _ _ _ _ _ _ _ _ _ _ _ _ _ _ _ _ _ _ _ _ _ _ _ _ _ _ _ _ _ _ _ _ _ _ _ _ _ _ _ _ _ _ _ _ _ _ _ _ _ _ _ _ _ _ _ _ _ _ _ _ _ _ _ _ _ _ _ _ _ _ _ _ _ _ _ _ _ _ _ _ _ _ _ _ _ _ _ _ _ _ _ _ _ _ _ _ _ _ _ _ _ _ _ _ _ _ _ _ _ _ _ _ _ _ _ _ _ _ _ _ _ _ _ _ _ _ _ _ _ _ _ _ _ _ _ _ _ _ _ _ _ _ _ _ _ _ _ _ _ _ _ _ _ _ _ _ _ _ _ _ _ _ _ _ _ _ _ _ _ _ _ _ _ _ _ _ _ _ _ _ _ _ _ _ _ _ _ _ _ _ _ _ _ _ _ _ _ _ _ _ _ _ _ _ _ _ _ _ _ _ _ _ _ _ _ _ _ _ _ _ _ _ _ _ _ _ _ _ _ _ _ _ _ _ _ _ _ _ _ HB6
  | true =>
    obtain ⟨hxn, hda⟩ := hsm rfl
    have HDA := Lib.hid hda
    have h6s := hb6.size
    have HI6 : Hid (NPS w w6 nb rb (fun j => j = wo.heap.size) (700 * i) i S (S.map stOf) C C w6) := Lib.hid (HI1.out.again (by rw [hal]; exact hb6) (fun j hj => .inl (.inr hj)))
    have HOC : Hid (∀ V : World, Fr (fun j => ¬ j = wo.heap.size) w6 V → V.cell? ⟨wo.heap.size, 0, none⟩ = some (.int .i64 xk) ∧ V.cell? ⟨wo.heap.size, 1, none⟩ = some (.int .i64 xa) ∧ V.cell? ⟨wo.heap.size, 2, none⟩ = some (.int .i64 xb) ∧ V.cell? ⟨wo.heap.size, 3, none⟩ = some (.slice xp xn xc)) := Lib.hid (fun V hV => by
      have h6 := HOB.out w6 hb6
      exact ⟨(hV.cell (p := ⟨wo.heap.size, 0, none⟩) (by show wo.heap.size < _; omega) (fun h => h rfl)).trans h6.1, (hV.cell (p := ⟨wo.heap.size, 1, none⟩) (by show wo.heap.size < _; omega) (fun h => h rfl)).trans h6.2.1, (hV.cell (p := ⟨wo.heap.size, 2, none⟩) (by show wo.heap.size < _; omega) (fun h => h rfl)).trans h6.2.2.1, (hV.cell (p := ⟨wo.heap.size, 3, none⟩) (by show wo.heap.size < _; omega) (fun h => h rfl)).trans h6.2.2.2⟩)
    have HW6 : Hid (wo.heap.size < w6.heap.size) := Lib.hid (by omega)
    obtain ⟨e0, e1, e2, e3⟩ := HOC.out w6 (Fr.refl _ _)
    have hi150 : i < 150 := by omega
    have hls := HI6.out.ls
    clear hda hsm hb6 h6s HSM HI1 HOB hal x0 x1 x2 x3 hsz HBO
    go_upto_block 2 with fail
    go_cut [] from 55 to 221 (fun wx => Hid (NPR w w6 nb rb (fun j => j = wo.heap.size) (i + 1) wx))
    case first =>
      refine nswitch (c := _) (by kernel_rfl) HI6 HOC HW6 hi150 hls HAO HBK HXZ HX0 HXK HDA hxn ?_
      intro _ _ _ _ _ _ _ _ _ _ _ _ _ _ _ _ _ _ _ _ _ _ _ _ _ _ _ _ _ _ _ _ _ _ _ _ _ _ _ _ _ _ _ _ _ _ _ _ _ _ _ _ _ _ _ _ _ _ _ _ _ _ _ _ _ _ _ _ _ _ _ _ _ _ _ _ _ _ _ _ _ _ _ _ _ _ _ _ _ _ _ _ _ _ _ _ _ _ _ _ _ _ _ _ _ _ _ _ _ _ _ _ _ _ _ _ _ _ _ _ _ _ _ _ _ _ _ _ _ _ _ _ _ _ _ _ _ _ _ _ _ _ _ _ _ _ _ _ _ _ _ _ _ _ _ _ _ _ _ _ _ _ _ _ _ _ _ _ _ _ _ _ _ _ _ _ _ _ _ _ wx HN
      go_wp2
      go_meet
      case rel => exact HN
    case rest =>
      obtain ⟨W8, hW8⟩ : ∃ W8, W8 = wc := ⟨_, rfl⟩
      subst hW8
      obtain ⟨S8, C8, hJ8⟩ := hcut.out
      have HJ8 := Lib.hid hJ8
      clear hJ8 hcut e0 e1 e2 e3 HI6 HDA HXZ HX0 HXK HBK HAO hls
      go_step
      refine ntail (c := _) (by kernel_rfl) HJ8 HOC HW6 ?_
      intro _ _ _ _ _ _ _ _ _ _ _ _ _ _ _ _ _ _ _ _ _ _ _ _ _ _ _ _ _ _ _ _ _ _ _ _ _ _ _ _ _ _ _ _ _ _ _ _ _ _ _ _ _ _ _ _ _ _ _ _ wx HN
      go_wp2
      exact HQ.out _ _ _ _ _ _ _ _ _ _ _ _ _ _ _ _ _ _ _ _ _ _ _ _ _ _ _ _ _ _ _ _ _ _ _ _ _ _ _ _ _ _ _ _ _ _ _ _ _ _ _ _ _ _ _ _ _ _ _ _ _ _ _ _ _ _ _ _ _ _ _ _ _ _ _ _ _ _ _ _ _ _ _ _ _ _ _ _ _ _ _ _ _ _ _ _ _ _ _ _ _ _ _ _ _ _ _ _ _ _ _ _ _ _ _ _ _ _ _ _ _ _ _ _ _ _ _ _ _ _ _ _ _ _ _ _ _ _ _ _ _ _ _ _ _ _ _ _ _ _ _ _ _ _ _ _ _ _ _ _ _ _ _ _ _ _ _ _ _ _ _ _ _ _ _ _ _ _ _ _ _ _ _ _ _ _ _ _ _ _ _ _ _ _ _ _ _ _ _ _ _ _ _ _ _ _ _ _ _ _ _ _ _ _ _ _ _ _ _ _ _ _ _ _ _ _ _ _ _ _ _ _ _ _ _ _ _ _ _ _ _ _ _ _ _ _ _ _ _ _ _ _ _ HN
end Go.Proofs.Ythdpajgnigilhaa
