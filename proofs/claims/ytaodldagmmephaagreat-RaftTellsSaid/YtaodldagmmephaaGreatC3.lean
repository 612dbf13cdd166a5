/- Merged texts: Rt7 Rt8 Rt9. -/
import Derived.Test.YtaodldagmmephaaGreatC2
/- arboretumlaw20.RaftTells: what is looked at behind each step. -/
namespace Go.Proofs.YtaodldagmmephaaGreat
open Go.RowKit Go.Maps
namespace RF
set_option maxHeartbeats 40000000 in
set_option maxRecDepth 100000 in
theorem ttail {c : Code} (hc : (Tryz.f10).body.bind (aftReg 13) = some c) {Q : Exit → Act → World → Prop} {W8 : World} {b6 b7 b8 cq cn pb po nl cl i : Nat} {pq pn : Option Addr} {mh : List (Mg × Value)} {nd : List Int} {ohd : Bool} {ofr : Int} {s z3 : RS} {v7 v6 : Value} {msl : List Mg} {kd : Int} {f1 f3 f4 f13 f14 f15 f16 f17 f18 f19 f20 f21 f22 f23 f24 f25 f26 f27 f28 f29 f30 f31 f32 f33 f34 f35 f36 f37 f38 f39 f40 f41 f42 f43 f44 f45 f46 f47 f48 f49 f50 f51 f52 f53 f54 f55 f56 f57 f58 f59 f60 f61 f62 f63 f64 f65 f66 f67 f68 f69 f246 v2 v9 v10 v11 v12 v70 v71 v72 v73 v74 v75 v76 v77 v78 v79 v80 v81 v82 v83 v84 v85 v86 v87 v88 v89 v90 v91 v92 v93 v94 v95 v96 v97 v98 v99 v100 v101 v102 v103 v104 v105 v106 v107 v108 v109 v110 v111 v112 v113 v114 v115 v116 v117 v118 v119 v120 v121 v122 v123 v124 v125 v126 v127 v128 v129 v130 v131 v132 v133 v134 v135 v136 v137 v138 v139 v140 v141 v142 v143 v144 v145 v146 v147 v148 v149 v150 v151 v152 v153 v154 v155 v156 v157 v158 v159 v160 v161 v162 v163 v164 v165 v166 v167 v168 v169 v170 v171 v172 v173 v174 v175 v176 v177 v178 v179 v180 v181 v182 v183 v184 v185 v186 v187 v188 v189 v190 v191 v192 v193 v194 v195 v196 v197 v198 v199 v200 v201 v202 v203 v204 v205 v206 v207 v208 v209 v210 v211 v212 v213 v214 v215 v216 v217 v218 v219 v220 v221 v222 v223 v224 v225 v226 v227 v228 v229 v230 v231 v232 v233 v234 v235 v236 v237 v238 v239 v240 v241 v242 v243 v244 v245 : Value} (HSD8 : Hid (Said b6 (vwL s v6) b7 (outL pq mh.length cq ohd ofr pn nd.length cn) pq pn mh nd W8)) (HY8 : Hid (CBox b8 (vwL z3 v7) W8)) (HMS : Hid (mh.map (·.1) = msl)) (HAK : Hid (Asked s z3 ohd ofr msl nd kd)) (HLA : Hid (z3.last ≤ 4503599627370496)) (HKD : Hid (W8.cell? ⟨pb, po + i * 22, none⟩ = some (.int .i64 kd))) (hlt : i < nl) (hml : mh.length ≤ 9223372036854775807) (hnl : nd.length ≤ 9223372036854775807)
    (hQ : ∀ (u2 u9 u10 u11 u12 u70 u71 u72 u73 u74 u75 u76 u77 u78 u79 u80 u81 u82 u83 u84 u85 u86 u87 u88 u89 u90 u91 u92 u93 u94 u95 u96 u97 u98 u99 u100 u101 u102 u103 u104 u105 u106 u107 u108 u109 u110 u111 u112 u113 u114 u115 u116 u117 u118 u119 u120 u121 u122 u123 u124 u125 u126 u127 u128 u129 u130 u131 u132 u133 u134 u135 u136 u137 u138 u139 u140 u141 u142 u143 u144 u145 u146 u147 u148 u149 u150 u151 u152 u153 u154 u155 u156 u157 u158 u159 u160 u161 u162 u163 u164 u165 u166 u167 u168 u169 u170 u171 u172 u173 u174 u175 u176 u177 u178 u179 u180 u181 u182 u183 u184 u185 u186 u187 u188 u189 u190 u191 u192 u193 u194 u195 u196 u197 u198 u199 u200 u201 u202 u203 u204 u205 u206 u207 u208 u209 u210 u211 u212 u213 u214 u215 u216 u217 u218 u219 u220 u221 u222 u223 u224 u225 u226 u227 u228 u229 u230 u231 u232 u233 u234 u235 u236 u237 u238 u239 u240 u241 u242 u243 u244 u245 : Value)  (wx : World), Hid (Below W8.heap.size W8 wx) → Q .normal ⟨#[.slice (some ⟨pb, po, none⟩) nl cl, f1, u2, f3, f4, .int .i64 (i : Int), .pointer (some ⟨b6, 0, none⟩), .pointer (some ⟨b7, 0, none⟩), .pointer (some ⟨b8, 0, none⟩), u9, u10, u11, u12, f13, f14, f15, f16, f17, f18, f19, f20, f21, f22, f23, f24, f25, f26, f27, f28, f29, f30, f31, f32, f33, f34, f35, f36, f37, f38, f39, f40, f41, f42, f43, f44, f45, f46, f47, f48, f49, f50, f51, f52, f53, f54, f55, f56, f57, f58, f59, f60, f61, f62, f63, f64, f65, f66, f67, f68, f69, u70, u71, u72, u73, u74, u75, u76, u77, u78, u79, u80, u81, u82, u83, u84, u85, u86, u87, u88, u89, u90, u91, u92, u93, u94, u95, u96, u97, u98, u99, u100, u101, u102, u103, u104, u105, u106, u107, u108, u109, u110, u111, u112, u113, u114, u115, u116, u117, u118, u119, u120, u121, u122, u123, u124, u125, u126, u127, u128, u129, u130, u131, u132, u133, u134, u135, u136, u137, u138, u139, u140, u141, u142, u143, u144, u145, u146, u147, u148, u149, u150, u151, u152, u153, u154, u155, u156, u157, u158, u159, u160, u161, u162, u163, u164, u165, u166, u167, u168, u169, u170, u171, u172, u173, u174, u175, u176, u177, u178, u179, u180, u181, u182, u183, u184, u185, u186, u187, u188, u189, u190, u191, u192, u193, u194, u195, u196, u197, u198, u199, u200, u201, u202, u203, u204, u205, u206, u207, u208, u209, u210, u211, u212, u213, u214, u215, u216, u217, u218, u219, u220, u221, u222, u223, u224, u225, u226, u227, u228, u229, u230, u231, u232, u233, u234, u235, u236, u237, u238, u239, u240, u241, u242, u243, u244, u245, f246], []⟩ wx) : c.wp Tryz.prog Q ⟨#[.slice (some ⟨pb, po, none⟩) nl cl, f1, v2, f3, f4, .int .i64 (i : Int), .pointer (some ⟨b6, 0, none⟩), .pointer (some ⟨b7, 0, none⟩), .pointer (some ⟨b8, 0, none⟩), v9, v10, v11, v12, f13, f14, f15, f16, f17, f18, f19, f20, f21, f22, f23, f24, f25, f26, f27, f28, f29, f30, f31, f32, f33, f34, f35, f36, f37, f38, f39, f40, f41, f42, f43, f44, f45, f46, f47, f48, f49, f50, f51, f52, f53, f54, f55, f56, f57, f58, f59, f60, f61, f62, f63, f64, f65, f66, f67, f68, f69, v70, v71, v72, v73, v74, v75, v76, v77, v78, v79, v80, v81, v82, v83, v84, v85, v86, v87, v88, v89, v90, v91, v92, v93, v94, v95, v96, v97, v98, v99, v100, v101, v102, v103, v104, v105, v106, v107, v108, v109, v110, v111, v112, v113, v114, v115, v116, v117, v118, v119, v120, v121, v122, v123, v124, v125, v126, v127, v128, v129, v130, v131, v132, v133, v134, v135, v136, v137, v138, v139, v140, v141, v142, v143, v144, v145, v146, v147, v148, v149, v150, v151, v152, v153, v154, v155, v156, v157, v158, v159, v160, v161, v162, v163, v164, v165, v166, v167, v168, v169, v170, v171, v172, v173, v174, v175, v176, v177, v178, v179, v180, v181, v182, v183, v184, v185, v186, v187, v188, v189, v190, v191, v192, v193, v194, v195, v196, v197, v198, v199, v200, v201, v202, v203, v204, v205, v206, v207, v208, v209, v210, v211, v212, v213, v214, v215, v216, v217, v218, v219, v220, v221, v222, v223, v224, v225, v226, v227, v228, v229, v230, v231, v232, v233, v234, v235, v236, v237, v238, v239, v240, v241, v242, v243, v244, v245, f246], []⟩ W8 := by
  have HQ := Lib.hid hQ
  clear hQ
  obtain ⟨d, hd, hc⟩ := aft_body2 hc
  unfold Tryz.f10 at hd
  simp only [Option.some.injEq] at hd
  subst hd
  simp [aftReg, endsReg] at hc
  subst hc
  have hltI : (i : Int) < (nl : Int) := by omega
  have HL6 := Lib.hid (fun wx (h : Below W8.heap.size W8 wx) => And.intro (HSD8.out.below h) (HY8.out.below h))
  have HAK3 := Lib.hid HAK.out.hd
  have HAF : Hid ((ofr = 0 → ((lastS z3.b z3.t z3.l).1 != (lastS s.b s.t s.l).1) = false ∧ ((lastS z3.b z3.t z3.l).2 != (lastS s.b s.t s.l).2) = false) ∧ 0 ≤ ofr ∧ ofr ≤ (lastS z3.b z3.t z3.l).1 + 1) := Lib.hid ⟨HAK.out.fr, HAK.out.fr1⟩
  have HAT : Hid ((lastS z3.b z3.t z3.l).1 ≤ 4503599627370496) := Lib.hid HLA.out
  have y3 := HSD8.out.y.1 3 _ rfl
  have y4 := HSD8.out.y.1 4 _ rfl
  have y5 := HSD8.out.y.1 5 _ rfl
  have y7 := HSD8.out.y.1 7 _ rfl
  have y8 := HSD8.out.y.1 8 _ rfl
  have x1 := HSD8.out.z.1 1 _ rfl
  have x2 := HSD8.out.z.1 2 _ rfl
  have s3 := HY8.out.1 3 _ rfl
  have s4 := HY8.out.1 4 _ rfl
  have s5 := HY8.out.1 5 _ rfl
  have s7 := HY8.out.1 7 _ rfl
  have s8 := HY8.out.1 8 _ rfl
  have z0 := HKD.out
  (try simp only [])
  go_upto_region 14 with fail
  go_cut [99] from 70 to 99 (fun s99 wx => s99 = .bool false ∧ wx = W8)
  case first =>
    clear y7 y8 x2 s7 s8
    by_cases h7 : kd = 7
    · have d7 : (kd != 7) = false := by simp [h7]
      clear h7
      rcases HAK3.out with ⟨g1, _⟩ | ⟨g1, g2, _⟩ | ⟨g1, g2, g3, _⟩ | ⟨g1, g2, g3, _⟩
      all_goals (cases ohd <;> (go_wp2; go_meet; case rel => exact ⟨rfl, rfl⟩))
    · have d7 : (kd != 7) = true := by simp [h7]
      rcases HAK3.out with ⟨g1, g4⟩ | ⟨g1, g2, g4⟩ | ⟨g1, g2, g3, g4⟩ | ⟨g1, g2, g3, g4⟩
      all_goals (have g5 := g4 h7; subst g5; clear g4 h7; go_wp2; go_meet; case rel => exact ⟨rfl, rfl⟩)
  case rest =>
  obtain ⟨rfl, hwx⟩ := hcut
  have hwx := hwx.symm
  subst hwx
  clear z0 y3 y4 y5 x1 s3 s4 s5 HAK3
  generalize (lastS z3.b z3.t z3.l).1 = la3 at *
  generalize (lastS z3.b z3.t z3.l).2 = lt3 at *
  generalize (lastS s.b s.t s.l).1 = la0 at *
  generalize (lastS s.b s.t s.l).2 = lt0 at *
  have hwl : IntKind.i64.wrap (la3 + 1) = la3 + 1 := IntWalk.i64_in _ (by have := HAT.out; have := HAF.out.2; omega)
  have hlf : decide (la3 + 1 < ofr) = false := decide_eq_false (by have := HAF.out.2.2; omega)
  go_upto_region 16 with fail
  go_cut [124] from 100 to 124 (fun s124 wx => s124 = .bool false ∧ wx = W8)
  case first =>
    by_cases hf0 : ofr = 0
    · have d0 : (ofr == 0) = true := by simp [hf0]
      obtain ⟨g1, g2⟩ := HAF.out.1 hf0
      clear hf0
      go_wp2
      go_meet
      case rel => exact ⟨rfl, rfl⟩
    · have d0 : (ofr == 0) = false := by simp [hf0]
      clear hf0
      go_wp2
      go_meet
      case rel => exact ⟨rfl, rfl⟩
  case rest =>
  obtain ⟨rfl, hwx⟩ := hcut
  have hwx := hwx.symm
  subst hwx
  clear y7 y8 x2 s7 s8 hlf hwl HAF
  go_upto_block 2 with fail
  refine tl2 (c := _) (by kernel_rfl) HSD8 HY8 HMS (Lib.hid ⟨HAK.out.ms, HLA.out, HAK.out.id⟩) hml ?_
  intro _ _ _ _ _ _ _ _ _ _ _ _ _ _ _ _ _ _ _ _ _ _ _ _ _ _ _ _ _ _ _ _ _ _ _ _ _ _ _ _ _ _ _ _ _ _ _ _ _ _ _ _ _ _ _ _ _ _ _ _ _ _ _ _ _ _ _ _ _ _ _ _ _ _ _ _ _ _ _ _ _ _ _ _ _ _ _ _ _ wx HBX
  go_upto_block 6 with fail
  refine tl6 (c := _) (by kernel_rfl) (Lib.hid (HL6.out wx HBX.out).1) (Lib.hid (HL6.out wx HBX.out).2) (Lib.hid ⟨HAK.out.nd, HAK.out.up⟩) hnl ?_
  intro _ _ _ _ _ _ _ _ _ _ _ _ _ _ _ _ _ _ _ _ _ _ _ _ _ _ _ _ _ _ _ _ _ _ _ _ _ _ wy HBY
  go_wp2
  exact HQ.out _ _ _ _ _ _ _ _ _ _ _ _ _ _ _ _ _ _ _ _ _ _ _ _ _ _ _ _ _ _ _ _ _ _ _ _ _ _ _ _ _ _ _ _ _ _ _ _ _ _ _ _ _ _ _ _ _ _ _ _ _ _ _ _ _ _ _ _ _ _ _ _ _ _ _ _ _ _ _ _ _ _ _ _ _ _ _ _ _ _ _ _ _ _ _ _ _ _ _ _ _ _ _ _ _ _ _ _ _ _ _ _ _ _ _ _ _ _ _ _ _ _ _ _ _ _ _ _ _ _ _ _ _ _ _ _ _ _ _ _ _ _ _ _ _ _ _ _ _ _ _ _ _ _ _ _ _ _ _ _ _ _ _ _ _ _ _ _ _ _ _ _ _ _ _ _ _ _ _ _ _ _ (Lib.hid (HBX.out.trans (HBY.out.mono HBX.out.size)))
end RF
end Go.Proofs.YtaodldagmmephaaGreat

/- arboretumlaw20.RaftTells: one step. -/
namespace Go.Proofs.YtaodldagmmephaaGreat
open Go.RowKit Go.Maps
namespace RF
theorem owns_le {W : World} {base sz n : Nat} {e : TypeId} {v : Value} {xs : List Value} (h : W.ownsRow base e sz v n xs) : n ≤ 9223372036854775807 := by
  rcases h.2 with ⟨_, h0⟩ | ⟨g, cap, cur, _, _, _, h1, h2, _⟩
  · omega
  · unfold maxLen at h2
    omega
set_option maxHeartbeats 40000000 in
set_option maxRecDepth 100000 in
theorem tbody {c : Code} (hc : (Tryz.f10).body.bind (aftTest 9) = some c) {Q : Exit → Act → World → Prop} {w wr : World} {rb B0 pb po nl cl i : Nat} {s : RS} {h : Hd} {o : OpL} {f1 f4 f13 f14 f15 f16 f17 f18 f19 f20 f21 f22 f23 f24 f25 f26 f27 f28 f29 f30 f31 f32 f33 f34 f35 f36 f37 f38 f39 f40 f41 f42 f43 f44 f45 f46 f47 f48 f49 f50 f51 f52 f53 f54 f55 f56 f57 f58 f59 f246 v2 v6 v7 v8 v9 v10 v11 v12 v60 v61 v62 v63 v64 v65 v66 v67 v68 v69 v70 v71 v72 v73 v74 v75 v76 v77 v78 v79 v80 v81 v82 v83 v84 v85 v86 v87 v88 v89 v90 v91 v92 v93 v94 v95 v96 v97 v98 v99 v100 v101 v102 v103 v104 v105 v106 v107 v108 v109 v110 v111 v112 v113 v114 v115 v116 v117 v118 v119 v120 v121 v122 v123 v124 v125 v126 v127 v128 v129 v130 v131 v132 v133 v134 v135 v136 v137 v138 v139 v140 v141 v142 v143 v144 v145 v146 v147 v148 v149 v150 v151 v152 v153 v154 v155 v156 v157 v158 v159 v160 v161 v162 v163 v164 v165 v166 v167 v168 v169 v170 v171 v172 v173 v174 v175 v176 v177 v178 v179 v180 v181 v182 v183 v184 v185 v186 v187 v188 v189 v190 v191 v192 v193 v194 v195 v196 v197 v198 v199 v200 v201 v202 v203 v204 v205 v206 v207 v208 v209 v210 v211 v212 v213 v214 v215 v216 v217 v218 v219 v220 v221 v222 v223 v224 v225 v226 v227 v228 v229 v230 v231 v232 v233 v234 v235 v236 v237 v238 v239 v240 v241 v242 v243 v244 v245 : Value} (HT : Hid (Ts w rb B0 s h i wr)) (HIL : Hid (i < 200)) (hlt : i < nl) (HOK : Hid (OpOk2 o w)) (HSI : Hid (o.m.en.length ≤ 40 ∧ (∀ y ∈ o.m.en, y.da.size ≤ 12000) ∧ o.st.size ≤ 3000)) (HCZ : Hid (∀ j u, (opcells o)[j]? = some u → ∀ W, Below w.heap.size w W → W.cell? ⟨pb, po + i * 22 + j, none⟩ = some u)) (HBB : Hid (o.m.ix ≤ 1099511627776 ∧ o.six ≤ 1099511627776 ∧ o.kd ≠ 6))
    (hQ : ∀ (u2 u6 u7 u8 u9 u10 u11 u12 u60 u61 u62 u63 u64 u65 u66 u67 u68 u69 u70 u71 u72 u73 u74 u75 u76 u77 u78 u79 u80 u81 u82 u83 u84 u85 u86 u87 u88 u89 u90 u91 u92 u93 u94 u95 u96 u97 u98 u99 u100 u101 u102 u103 u104 u105 u106 u107 u108 u109 u110 u111 u112 u113 u114 u115 u116 u117 u118 u119 u120 u121 u122 u123 u124 u125 u126 u127 u128 u129 u130 u131 u132 u133 u134 u135 u136 u137 u138 u139 u140 u141 u142 u143 u144 u145 u146 u147 u148 u149 u150 u151 u152 u153 u154 u155 u156 u157 u158 u159 u160 u161 u162 u163 u164 u165 u166 u167 u168 u169 u170 u171 u172 u173 u174 u175 u176 u177 u178 u179 u180 u181 u182 u183 u184 u185 u186 u187 u188 u189 u190 u191 u192 u193 u194 u195 u196 u197 u198 u199 u200 u201 u202 u203 u204 u205 u206 u207 u208 u209 u210 u211 u212 u213 u214 u215 u216 u217 u218 u219 u220 u221 u222 u223 u224 u225 u226 u227 u228 u229 u230 u231 u232 u233 u234 u235 u236 u237 u238 u239 u240 u241 u242 u243 u244 u245 : Value) (z3 : RS) (h5 : Hd) (wx : World), Hid (Ts w rb B0 z3 h5 (i + 1) wx) → Q .normal ⟨#[.slice (some ⟨pb, po, none⟩) nl cl, f1, u2, .pointer (some ⟨rb, 0, none⟩), f4, .int .i64 (i : Int), u6, u7, u8, u9, u10, u11, u12, f13, f14, f15, f16, f17, f18, f19, f20, f21, f22, f23, f24, f25, f26, f27, f28, f29, f30, f31, f32, f33, f34, f35, f36, f37, f38, f39, f40, f41, f42, f43, f44, f45, f46, f47, f48, f49, f50, f51, f52, f53, f54, f55, f56, f57, f58, f59, u60, u61, u62, u63, u64, u65, u66, u67, u68, u69, u70, u71, u72, u73, u74, u75, u76, u77, u78, u79, u80, u81, u82, u83, u84, u85, u86, u87, u88, u89, u90, u91, u92, u93, u94, u95, u96, u97, u98, u99, u100, u101, u102, u103, u104, u105, u106, u107, u108, u109, u110, u111, u112, u113, u114, u115, u116, u117, u118, u119, u120, u121, u122, u123, u124, u125, u126, u127, u128, u129, u130, u131, u132, u133, u134, u135, u136, u137, u138, u139, u140, u141, u142, u143, u144, u145, u146, u147, u148, u149, u150, u151, u152, u153, u154, u155, u156, u157, u158, u159, u160, u161, u162, u163, u164, u165, u166, u167, u168, u169, u170, u171, u172, u173, u174, u175, u176, u177, u178, u179, u180, u181, u182, u183, u184, u185, u186, u187, u188, u189, u190, u191, u192, u193, u194, u195, u196, u197, u198, u199, u200, u201, u202, u203, u204, u205, u206, u207, u208, u209, u210, u211, u212, u213, u214, u215, u216, u217, u218, u219, u220, u221, u222, u223, u224, u225, u226, u227, u228, u229, u230, u231, u232, u233, u234, u235, u236, u237, u238, u239, u240, u241, u242, u243, u244, u245, f246], []⟩ wx) : c.wp Tryz.prog Q ⟨#[.slice (some ⟨pb, po, none⟩) nl cl, f1, v2, .pointer (some ⟨rb, 0, none⟩), f4, .int .i64 (i : Int), v6, v7, v8, v9, v10, v11, v12, f13, f14, f15, f16, f17, f18, f19, f20, f21, f22, f23, f24, f25, f26, f27, f28, f29, f30, f31, f32, f33, f34, f35, f36, f37, f38, f39, f40, f41, f42, f43, f44, f45, f46, f47, f48, f49, f50, f51, f52, f53, f54, f55, f56, f57, f58, f59, v60, v61, v62, v63, v64, v65, v66, v67, v68, v69, v70, v71, v72, v73, v74, v75, v76, v77, v78, v79, v80, v81, v82, v83, v84, v85, v86, v87, v88, v89, v90, v91, v92, v93, v94, v95, v96, v97, v98, v99, v100, v101, v102, v103, v104, v105, v106, v107, v108, v109, v110, v111, v112, v113, v114, v115, v116, v117, v118, v119, v120, v121, v122, v123, v124, v125, v126, v127, v128, v129, v130, v131, v132, v133, v134, v135, v136, v137, v138, v139, v140, v141, v142, v143, v144, v145, v146, v147, v148, v149, v150, v151, v152, v153, v154, v155, v156, v157, v158, v159, v160, v161, v162, v163, v164, v165, v166, v167, v168, v169, v170, v171, v172, v173, v174, v175, v176, v177, v178, v179, v180, v181, v182, v183, v184, v185, v186, v187, v188, v189, v190, v191, v192, v193, v194, v195, v196, v197, v198, v199, v200, v201, v202, v203, v204, v205, v206, v207, v208, v209, v210, v211, v212, v213, v214, v215, v216, v217, v218, v219, v220, v221, v222, v223, v224, v225, v226, v227, v228, v229, v230, v231, v232, v233, v234, v235, v236, v237, v238, v239, v240, v241, v242, v243, v244, v245, f246], []⟩ wr := by
  have HQ := Lib.hid hQ
  clear hQ
  obtain ⟨d, hd, hc⟩ := aft_test hc
  unfold Tryz.f10 at hd
  simp only [Option.some.injEq] at hd
  subst hd
  simp [aftTest, headReg] at hc
  subst hc
  have hltI : (i : Int) < (nl : Int) := by omega
  (try simp only [])
  have HSV := Lib.hid (rf_state HT.out.rf HT.out.th.bd)
  go_wp2_with fail
  with_reducible refine (HSV.out).mono ?_
  rintro e W3 ⟨v3, rfl, ho3, hb3⟩
  obtain ⟨p3, c3, hv3⟩ := owns_slice ho3
  subst hv3
  have HT3 := Lib.hid (HT.out.below hb3)
  clear ho3 hb3 HSV HT
  unfold stateV
  have Y3 := CBox.fresh W3 (vwL s (.slice p3 s.all.length c3)) 41
  have hb4 : Below W3.heap.size W3 (W3.alloc (.cells (vwL s (.slice p3 s.all.length c3)).toArray 41)) := (Below.refl _ W3).alloc (Nat.le_refl _) _
  have HT4 := Lib.hid (HT3.out.below hb4)
  unfold vwL at Y3 hb4 HT4
  dsimp only [List.toArray] at Y3 hb4 HT4
  go_upto_region 12 with fail
  generalize W3.alloc (.cells #[.int .i64 s.id, .int .i64 s.role, .int .i64 s.lead, .int .i64 s.term, .int .i64 s.vote, .int .i64 s.commit, .int .i64 s.b, .int .i64 (lastS s.b s.t s.l).1, .int .i64 (lastS s.b s.t s.l).2, .int .i64 s.elapsed, .int .i64 s.timeout, .int .i64 s.round, .slice p3 s.all.length c3] 41) = W4 at *
  generalize hb6 : W3.heap.size = b6 at *
  have HE6 : Hid (w.heap.size ≤ b6 ∧ b6 < W4.heap.size) := Lib.hid ⟨by rw [← hb6]; exact HT3.out.bel.size, Y3.2.2⟩
  have HY4 := Lib.hid Y3
  have HNF6 : Hid (¬ Fo rb h b6) := Lib.hid (fun e => by have := (HT3.out.rf.lt e).2; omega)
  clear hb6 hb4 HT3 Y3
  (try clear W3)
  have HOI := Lib.hid HOK.out.1.int
  obtain ⟨ms, hms⟩ := HOK.out.2
  have HMS := Lib.hid hms
  have hkk : o.kd ≠ 6 := HBB.out.2.2
  have hgt := HBB.out
  have hsi := HSI.out
  have hi2 := HIL.out
  have HEN := Lib.hid (HOK.out.1.msg.ens2 HT4.out.bel (fun e he => by have := hsi.2.1 e he; omega) HT4.out.rf HT4.out.lo)
  have hML : MB i + ((max o.m.en.length 1 : Nat) : Int) < 4503599627370496 := by unfold MB; omega
  have hNL : NB i + max o.m.en.length 1 ≤ 10000 := by unfold NB; omega
  have hVT : s.votes.length ≤ 900 := by have := HT4.out.th.ev.2; omega
  have hSX : o.six ≤ MB i := by unfold MB; omega
  have HAS := Lib.hid (hear_told HT4.out.th hi2 o ms hsi.1 hsi.2.1 hsi.2.2 hgt.2.1)
  have HHE := Lib.hid (rf_hear o ms HT4.out.rf HT4.out.th.bd hML hNL hVT HT4.out.cl HT4.out.th.out HT4.out.th.ev.1 HEN.out ⟨⟨HOI.out.2.1, HOI.out.2.2.1, HOI.out.2.2.2.1⟩, HOK.out.1.msg.int.2.2.2.2.1⟩ hsi.2.2 hSX ((HMS.out.below HT4.out.bel).more HT4.out.bel.size) HMS.out.1 (fun h0 g k e hf => by
    obtain ⟨b, o', e', hb', _⟩ := HMS.out.2 h0
    rw [e] at e'
    injection e' with e'
    injection e' with e1 _ _
    have := (HT4.out.rf.lt hf).1
    have := HT4.out.lo
    omega) hkk)
  clear hms hML hNL hVT hSX hgt hsi hkk HEN HMS HOI
  have hld : (loadVar 83 ⟨pb, po + i * 22, none⟩).run Tryz.prog W4 = .ok (.agg #[.int .i64 o.kd, .int .i64 o.a, .int .i64 o.b, .int .i64 o.m.kd, .int .i64 o.m.fr, .int .i64 o.m.tq, .int .i64 o.m.tm, .int .i64 o.m.ix, .int .i64 o.m.lt, .int .i64 o.m.cm, .int .i64 o.m.rd, .bool o.m.ok, .bool o.x.dn, .slice o.x.pe o.m.en.length o.x.ce, .slice o.x.pm o.x.nm o.x.cm, .int .i64 o.x.of, .slice o.x.pp o.x.np o.x.cp, .string o.st, .slice o.lp o.ln o.lc, .int .i64 o.six, .int .i64 o.stm, .slice o.sp o.sn o.sc]) W4 := load_op2 o pb (po + i * 22) W4 (fun j u hu => HCZ.out j u hu W4 HT4.out.bel)
  have HAK := Lib.hid (asked_of HAS.out)
  have HTH := Lib.hid HAS.out.1
  clear HAS
  generalize s.hearS o ms = z at *
  refine wp_region_lit ?_
  refine wpE (by rfl) rfl ?_
  refine wpE (by rfl) rfl ?_
  refine wpE (by rfl) rfl ?_
  refine wpE (v := .pointer (some ⟨pb, po + i * 22, none⟩)) (by rfl) (by go_simp) ?_
  refine wpLd (by rfl) hld (by rfl) ?_
  go_wp2_with fail
  with_reducible refine (HHE.out).mono ?_
  rintro e W5 ⟨v5, h5, rfl, hcl5, hr5, hp5, ov, nv, mh, rfl, hmh, ho, hens, hnd, _⟩
  obtain ⟨pq, cq, hov⟩ := owns_slice ho
  obtain ⟨pn, cn, hnv⟩ := owns_slice hnd
  subst hov hnv
  have HT5 : Hid (Ts w rb B0 z.fin h5 (i + 1) W5) := Lib.hid (HT4.out.step hcl5 hr5 hp5 HTH.out)
  have HY5 := Lib.hid (HY4.out.keep hp5.1 HNF6.out)
  have HRW5 := Lib.hid (RdG.of_own ho rfl)
  have HEN5 : Hid (∀ x ∈ mh, ∃ pe ce, x.2 = .slice pe x.1.en.length ce ∧ RdG ecells W5 W5.heap.size pe x.1.en.length x.1.en) := Lib.hid (fun x hx => by
    have h1 := hens x hx
    obtain ⟨pe, ce, he⟩ := owns_slice h1
    rw [he] at h1
    exact ⟨pe, ce, he, RdG.of_own h1 rfl⟩)
  have HND5 := Lib.hid (RdI.of_own hnd rfl)
  have HMS : Hid (mh.map (·.1) = z.out.ms) := Lib.hid hmh
  have HLE : Hid (mh.length ≤ 9223372036854775807 ∧ z.told.nd.length ≤ 9223372036854775807) := Lib.hid ⟨owns_le ho, owns_le hnd⟩
  clear hcl5 hr5 hp5 hmh ho hens hnd HHE HTH HT4 HY4 hld
  generalize z.told.hd = ohd at *
  generalize z.told.fr = ofr at *
  generalize z.told.nd = nd at *
  generalize z.out.ms = msl at *
  generalize z.fin = z3 at *
  (try clear W4)
  go_upto_region 13 with fail
  have Z0 := CBox.fresh W5 [.slice pq mh.length cq, .bool ohd, .int .i64 ofr, .slice pn nd.length cn] 37
  have hb6 : Below W5.heap.size W5 (W5.alloc (.cells [.slice pq mh.length cq, .bool ohd, .int .i64 ofr, .slice pn nd.length cn].toArray 37)) := (Below.refl _ W5).alloc (Nat.le_refl _) _
  dsimp only [List.toArray] at Z0 hb6
  generalize W5.alloc (.cells #[.slice pq mh.length cq, .bool ohd, .int .i64 ofr, .slice pn nd.length cn] 37) = W6 at *
  have HT6 := Lib.hid (HT5.out.below hb6)
  have HSD6 : Hid (Said b6 _ W5.heap.size _ pq pn mh nd W6) := Lib.hid ⟨HY5.out.below hb6, Z0, (HRW5.out.below hb6).more hb6.size, fun x hx => by
    obtain ⟨pe, ce, e, h⟩ := HEN5.out x hx
    exact ⟨pe, ce, e, (h.below hb6).more hb6.size⟩, (HND5.out.below hb6).more hb6.size⟩
  generalize W5.heap.size = b7 at *
  clear Z0 hb6 HT5 HY5 HRW5 HEN5 HND5
  (try clear W5)
  have HS3 := Lib.hid (HT6.out.th.bd)
  go_upto_region 13 with fail
  go_cut [8] from 68 to 69 (fun s8 wx => ∃ (b8 : Nat) (v7 : Value), s8 = .pointer (some ⟨b8, 0, none⟩) ∧ Hid (Ts w rb B0 z3 h5 (i + 1) wx ∧ Said b6 (vwL s (.slice p3 s.all.length c3)) b7 (outL pq mh.length cq ohd ofr pn nd.length cn) pq pn mh nd wx ∧ CBox b8 (vwL z3 v7) wx))
  case first =>
    have HSV := Lib.hid (rf_state HT6.out.rf HT6.out.th.bd)
    go_wp2_with fail
    with_reducible refine (HSV.out).mono ?_
    rintro e W7 ⟨v7, rfl, ho7, hb7⟩
    obtain ⟨p7, c7, hv7⟩ := owns_slice ho7
    subst hv7
    have hb8 : Below W7.heap.size W7 (W7.alloc (.cells (vwL z3 (.slice p7 z3.all.length c7)).toArray 41)) := (Below.refl _ W7).alloc (Nat.le_refl _) _
    have HF8 : Hid (Ts w rb B0 z3 h5 (i + 1) _ ∧ Said b6 _ b7 _ pq pn mh nd _ ∧ CBox W7.heap.size (vwL z3 (.slice p7 z3.all.length c7)) _) := Lib.hid ⟨(HT6.out.below hb7).below hb8, (HSD6.out.below hb7).below hb8, CBox.fresh W7 (vwL z3 (.slice p7 z3.all.length c7)) 41⟩
    unfold vwL at HF8
    dsimp only [List.toArray] at HF8
    clear hb8 ho7 hb7 HSV HT6 HSD6
    unfold stateV
    go_wp2
    go_meet
    case rel => exact ⟨_, _, rfl, HF8⟩
  case rest =>
  obtain ⟨b8, v7, rfl, HF8⟩ := hcut
  have HKD : Hid (wc.cell? ⟨pb, po + i * 22, none⟩ = some (.int .i64 o.kd)) := Lib.hid (HCZ.out 0 _ rfl _ HF8.out.1.bel)
  go_step
  refine ttail (c := _) (by kernel_rfl) (Lib.hid HF8.out.2.1) (Lib.hid HF8.out.2.2) HMS HAK (Lib.hid (Int.le_trans HS3.out.top HS3.out.big)) HKD hlt HLE.out.1 HLE.out.2 ?_
  intro _ _ _ _ _ _ _ _ _ _ _ _ _ _ _ _ _ _ _ _ _ _ _ _ _ _ _ _ _ _ _ _ _ _ _ _ _ _ _ _ _ _ _ _ _ _ _ _ _ _ _ _ _ _ _ _ _ _ _ _ _ _ _ _ _ _ _ _ _ _ _ _ _ _ _ _ _ _ _ _ _ _ _ _ _ _ _ _ _ _ _ _ _ _ _ _ _ _ _ _ _ _ _ _ _ _ _ _ _ _ _ _ _ _ _ _ _ _ _ _ _ _ _ _ _ _ _ _ _ _ _ _ _ _ _ _ _ _ _ _ _ _ _ _ _ _ _ _ _ _ _ _ _ _ _ _ _ _ _ _ _ _ _ _ _ _ _ _ _ _ _ _ _ _ _ _ _ _ _ _ _ wx HBX
  have HTF := Lib.hid (HF8.out.1.below HBX.out)
  go_wp2
  exact HQ.out _ _ _ _ _ _ _ _ _ _ _ _ _ _ _ _ _ _ _ _ _ _ _ _ _ _ _ _ _ _ _ _ _ _ _ _ _ _ _ _ _ _ _ _ _ _ _ _ _ _ _ _ _ _ _ _ _ _ _ _ _ _ _ _ _ _ _ _ _ _ _ _ _ _ _ _ _ _ _ _ _ _ _ _ _ _ _ _ _ _ _ _ _ _ _ _ _ _ _ _ _ _ _ _ _ _ _ _ _ _ _ _ _ _ _ _ _ _ _ _ _ _ _ _ _ _ _ _ _ _ _ _ _ _ _ _ _ _ _ _ _ _ _ _ _ _ _ _ _ _ _ _ _ _ _ _ _ _ _ _ _ _ _ _ _ _ _ _ _ _ _ _ _ _ _ _ _ _ _ _ _ _ _ _ _ _ _ _ _ _ _ _ _ _ _ _ _ HTF
end RF
end Go.Proofs.YtaodldagmmephaaGreat

/- arboretumlaw20.RaftTells: its walk. -/
namespace Go.Proofs.YtaodldagmmephaaGreat
open Go.RowKit Go.Maps
namespace RF
set_option maxHeartbeats 2000000 in
set_option maxRecDepth 100000 in
theorem tells_walk (p : Option Addr) (c : Nat) (L : List OpL) (w : World) (hL : RdG opcells w w.heap.size p L.length L) (hO : ∀ z ∈ L, OpOk2 z w) (hn : L.length ≤ 9223372036854775807) :
    Calls Tryz.prog 10 #[.slice p L.length c] w fun e w' => e = .returned (.bool true) ∧ Below w.heap.size w w' := by
  have HAL := Lib.hid (fun W => alive_true W)
  have HLI := Lib.hid (light_ops p c L w ⟨hL, fun i hi => (hO _ (el_in hi)).1.msg.at'⟩ hn (fun i hi => (hO _ (el_in hi)).1.sizes))
  have HO : Hid (∀ i, i < L.length → OpOk2 (HL.el L i) w) := Lib.hid (fun i hi => hO _ (el_in hi))
  have HLL := Lib.hid hL
  clear hL hO hn
  go_enter Tryz.func10, Tryz.ntmps10
  go_wp2_with fail
  with_reducible refine (HLI.out).mono ?_
  rintro e W1 ⟨⟨β, rfl, hβ⟩, hb1⟩
  have HB1 := Lib.hid hb1
  have HBE := Lib.hid hβ
  clear hb1 hβ HLI
  cases β with
  | false =>
    have HAC := Lib.hid (HAL.out W1)
    go_wp2_with fail
    with_reducible refine (HAC.out).mono ?_
    rintro e w3 ⟨rfl, hb3⟩
    have HB3 := Lib.hid (HB1.out.trans (hb3.mono HB1.out.size))
    go_wp2
    go_ret
    exact ⟨rfl, HB3.out⟩
  | true =>
  have HSM := Lib.hid (HBE.out rfl)
  clear HBE
  have HBA : Hid (Below W1.heap.size W1 (W1.alloc (.cells #[.int .i64 1, .int .i64 2, .int .i64 3] 3))) := Lib.hid ((Below.refl _ W1).alloc (Nat.le_refl _) _)
  have HIF : Hid (RdI (W1.alloc (.cells #[.int .i64 1, .int .i64 2, .int .i64 3] 3)) (W1.alloc (.cells #[.int .i64 1, .int .i64 2, .int .i64 3] 3)).heap.size (some ⟨W1.heap.size, 0, none⟩) 3 [1, 2, 3]) := Lib.hid (rd_new W1 [1, 2, 3] _)
  have HNW := Lib.hid (rf_new 1 0 0 0 0 0 [1, 2, 3] (some ⟨W1.heap.size, 0, none⟩) 3 [] none 0 0 (by omega) (by omega) HIF.out ⟨rfl, fun h => absurd h (by omega)⟩ (.inr ⟨rfl, rfl⟩) (by omega) (fun i hi => absurd hi (by omega)) th_new.1)
  simp only [List.length_cons, List.length_nil, Nat.zero_add, Nat.reduceAdd] at HNW
  have HT0 := Lib.hid th_new.2
  go_wp2_with fail
  with_reducible refine (HNW.out).mono ?_
  rintro e W2 ⟨rb, h, B0, rfl, hcl, hB0, hr, hb2⟩
  have HTS : Hid (Ts w rb B0 (new0 1 0 0 0 0 0 [1, 2, 3] []) h 0 W2) := Lib.hid ⟨hcl, hr, HT0.out, Nat.le_trans (Nat.le_trans HB1.out.size HBA.out.size) hB0, HB1.out.trans ((HBA.out.trans (hb2.mono HBA.out.size)).mono HB1.out.size)⟩
  clear hcl hB0 hr hb2 HNW HT0 HIF HBA HB1
  generalize new0 1 0 0 0 0 0 [1, 2, 3] [] = s0 at *
  go_wp2
  go_loopw [5] (fun iv wr => ∃ (i : Nat) (s : RS) (h : Hd), i ≤ L.length ∧ iv = .int .i64 (i : Int) ∧ Hid (Ts w rb B0 s h i wr)) (fun iv _ => L.length - (intOf iv).toNat)
  case atStart => exact ⟨0, s0, h, Nat.zero_le _, rfl, HTS⟩
  case round =>
    obtain ⟨i, s, h, hi, rfl, HT⟩ := hrel
    by_cases hlt : i < L.length
    case neg =>
      have hltI : ¬ ((i : Int) < (L.length : Int)) := by omega
      have HAC := Lib.hid (HAL.out wr)
      have HBW := Lib.hid HT.out.bel
      go_wp2_with fail
      with_reducible refine (HAC.out).mono ?_
      rintro e W4 ⟨rfl, hb4⟩
      have HBF := Lib.hid (HBW.out.trans (hb4.mono HBW.out.size))
      clear hb4
      go_wp2
      go_ret
      exact ⟨rfl, HBF.out⟩
    case pos =>
    have hltI : (i : Int) < (L.length : Int) := by omega
    have HIL : Hid (i < 200) := Lib.hid (by have := HSM.out.1; omega)
    obtain ⟨pb, po, hpe, hpb, hpc⟩ := HLL.out.2 (by omega)
    subst hpe
    have HOK := Lib.hid (HO.out i hlt)
    have HSI := Lib.hid (HSM.out.2 i hlt)
    have HCZ : Hid (∀ j u, (opcells (HL.el L i))[j]? = some u → ∀ W, Below w.heap.size w W → W.cell? ⟨pb, po + i * 22 + j, none⟩ = some u) := Lib.hid (fun j u hu W hW => by
      have hj : j < 22 := by
        have := (List.getElem?_eq_some_iff.1 hu).1
        rw [opcells_len] at this
        exact this
      exact (hW.cell (p := ⟨pb, po + i * 22 + j, none⟩) hpb).trans (row_cell2 (size := 22) opcells_len rfl hpc i j hlt u hu hj))
    clear hpc hpb
    generalize HL.el L i = o at *
    have z0 : wr.cell? ⟨pb, po + i * 22, none⟩ = some (.int .i64 o.kd) := HCZ.out 0 _ rfl _ HT.out.bel
    have z7 : wr.cell? ⟨pb, po + i * 22 + 3 + 4, none⟩ = some (.int .i64 o.m.ix) := HCZ.out 7 _ rfl _ HT.out.bel
    have z19 : wr.cell? ⟨pb, po + i * 22 + 19, none⟩ = some (.int .i64 o.six) := HCZ.out 19 _ rfl _ HT.out.bel
    go_upto_region 9 with fail
    go_cut [59] (fun s59 wx => ∃ β : Bool, s59 = .bool β ∧ wx = wr ∧ Hid (β = false → o.m.ix ≤ 1099511627776 ∧ o.six ≤ 1099511627776 ∧ o.kd ≠ 6))
    case first =>
      by_cases h1 : 1099511627776 < o.m.ix
      · have d1 : decide (1099511627776 < o.m.ix) = true := decide_eq_true h1
        clear h1
        go_wp2
        go_meet
        case rel => exact ⟨_, rfl, rfl, Lib.hid (fun h => by cases h)⟩
      · have d1 : decide (1099511627776 < o.m.ix) = false := decide_eq_false h1
        by_cases h2 : 1099511627776 < o.six
        · have d2 : decide (1099511627776 < o.six) = true := decide_eq_true h2
          clear h1 h2
          go_wp2
          go_meet
          case rel => exact ⟨_, rfl, rfl, Lib.hid (fun h => by cases h)⟩
        · have d2 : decide (1099511627776 < o.six) = false := decide_eq_false h2
          by_cases h3 : o.kd = 6
          · have d3 : (o.kd == 6) = true := by simp [h3]
            clear h1 h2 h3
            go_wp2
            go_meet
            case rel => exact ⟨_, rfl, rfl, Lib.hid (fun h => by cases h)⟩
          · have d3 : (o.kd == 6) = false := by simp [h3]
            have HN : Hid (o.m.ix ≤ 1099511627776 ∧ o.six ≤ 1099511627776 ∧ o.kd ≠ 6) := Lib.hid ⟨by omega, by omega, h3⟩
            clear h1 h2 h3
            go_wp2
            go_meet
            case rel => exact ⟨_, rfl, rfl, Lib.hid (fun _ => HN.out)⟩
    case rest =>
    obtain ⟨β, rfl, hwx, HBB⟩ := hcut
    have hwx := hwx.symm
    subst hwx
    clear z0 z7 z19
    cases β with
    | true =>
      have HBF := Lib.hid HT.out.bel
      go_wp2
      go_ret
      exact ⟨rfl, HBF.out⟩
    | false =>
    go_step; go_step; go_step; go_step; go_step
    refine tbody (c := _) (by kernel_rfl) HT HIL hlt HOK HSI HCZ (Lib.hid (HBB.out (by simp))) ?_
    intro _ _ _ _ _ _ _ _ _ _ _ _ _ _ _ _ _ _ _ _ _ _ _ _ _ _ _ _ _ _ _ _ _ _ _ _ _ _ _ _ _ _ _ _ _ _ _ _ _ _ _ _ _ _ _ _ _ _ _ _ _ _ _ _ _ _ _ _ _ _ _ _ _ _ _ _ _ _ _ _ _ _ _ _ _ _ _ _ _ _ _ _ _ _ _ _ _ _ _ _ _ _ _ _ _ _ _ _ _ _ _ _ _ _ _ _ _ _ _ _ _ _ _ _ _ _ _ _ _ _ _ _ _ _ _ _ _ _ _ _ _ _ _ _ _ _ _ _ _ _ _ _ _ _ _ _ _ _ _ _ _ _ _ _ _ _ _ _ _ _ _ _ _ _ _ _ _ _ _ _ _ _ _ _ _ _ _ _ _ _ _ _ _ _ z3 h5 wx HTF
    have hwi : IntKind.i64.wrap ((i : Int) + 1) = (i : Int) + 1 := IntWalk.i64_in _ (by have := HIL.out; omega)
    go_wp2
    go_roundw
    case rel => exact ⟨i + 1, z3, h5, by omega, by go_num, HTF⟩
    case measure => simp [intOf]; omega
end RF
end Go.Proofs.YtaodldagmmephaaGreat

