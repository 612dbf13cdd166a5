/- arboretumlaw27.NetPlays: the walk of one kind of step. (Printed by gen-nplay.py.) -/
import Derived.Test.YthdpajgnigilhaaNPH
namespace Go.Proofs.Ythdpajgnigilhaa
open Go.RowKit

set_option maxHeartbeats 40000000 in
set_option maxRecDepth 100000 in
theorem nk1 {c : Code} (hc : (Try.f6).body.bind (blkOf 2) = some c) {Q : Exit → Act → World → Prop} {w w6 : World} {nb rb ob i : Nat} {S : List Nd} {C : List (Int × Int)} {xa xb : Int} {xp : Option Addr} {xn xc : Nat} {xz : List Pk} {f0 f1 f2 f3 f4 f7 f22 f23 f24 f25 f26 f27 f28 f29 f30 f31 f32 f33 f34 f35 f36 f37 f38 f39 f40 f41 f42 f43 f44 f45 f46 f47 f48 f49 f50 f51 f52 f53 f222 f223 f224 f225 f226 f227 f228 f229 f230 f231 f232 f233 f234 f235 f236 f237 f238 f239 f240 f241 f242 f243 f244 f245 f246 f247 f248 f249 f250 f251 f252 f253 f254 f255 f256 f257 f258 f259 f260 f261 f262 f263 f264 f265 f266 f267 f268 f269 f270 f271 f272 f273 f274 f275 f276 f277 f278 f279 f280 f281 f282 f283 f284 f285 f286 f287 f288 f289 f290 f291 f292 f293 f294 f295 f296 f297 f298 f299 f300 f301 f302 f303 f304 f305 f306 f307 f308 f309 f310 v9 v10 v11 v12 v13 v14 v15 v16 v17 v18 v19 v20 v21 v55 v56 v57 v58 v59 v60 v61 v62 v63 v64 v65 v66 v67 v68 v69 v70 v71 v72 v73 v74 v75 v76 v77 v78 v79 v80 v81 v82 v83 v84 v85 v86 v87 v88 v89 v90 v91 v92 v93 v94 v95 v96 v97 v98 v99 v100 v101 v102 v103 v104 v105 v106 v107 v108 v109 v110 v111 v112 v113 v114 v115 v116 v117 v118 v119 v120 v121 v122 v123 v124 v125 v126 v127 v128 v129 v130 v131 v132 v133 v134 v135 v136 v137 v138 v139 v140 v141 v142 v143 v144 v145 v146 v147 v148 v149 v150 v151 v152 v153 v154 v155 v156 v157 v158 v159 v160 v161 v162 v163 v164 v165 v166 v167 v168 v169 v170 v171 v172 v173 v174 v175 v176 v177 v178 v179 v180 v181 v182 v183 v184 v185 v186 v187 v188 v189 v190 v191 v192 v193 v194 v195 v196 v197 v198 v199 v200 v201 v202 v203 v204 v205 v206 v207 v208 v209 v210 v211 v212 v213 v214 v215 v216 v217 v218 v219 v220 v221 : Value}
    (HI6 : Hid (NPS w w6 nb rb (fun j => j = ob) (700 * i) i S (S.map stOf) C C w6)) (HOC : Hid (∀ V : World, Fr (fun j => ¬ j = ob) w6 V → V.cell? ⟨ob, 0, none⟩ = some (.int .i64 1) ∧ V.cell? ⟨ob, 1, none⟩ = some (.int .i64 xa) ∧ V.cell? ⟨ob, 2, none⟩ = some (.int .i64 xb) ∧ V.cell? ⟨ob, 3, none⟩ = some (.slice xp xn xc))) (HW6 : Hid (ob < w6.heap.size))
    (hi150 : i < 150) (_hls : S.length ≤ 600) (HAO : Hid (i64ok xa)) (_HBK : Hid (i64ok xb)) (HXZ : Hid (RdG pcells w w.heap.size xp xn xz)) (HX0 : Hid (xp = none → xc = 0)) (HXK : Hid (∀ z ∈ xz, pkok z)) (HDA : Hid (∀ k, k < xn → (HL.el xz k).da.size ≤ 6000)) (hxn : xn ≤ 60)
    (hQ : ∀ (u9 u10 u11 u12 u13 u14 u15 u16 u17 u18 u19 u20 u21 u55 u56 u57 u58 u59 u60 u61 u62 u63 u64 u65 u66 u67 u68 u69 u70 u71 u72 u73 u74 u75 u76 u77 u78 u79 u80 u81 u82 u83 u84 u85 u86 u87 u88 u89 u90 u91 u92 u93 u94 u95 u96 u97 u98 u99 u100 u101 u102 u103 u104 u105 u106 u107 u108 u109 u110 u111 u112 u113 u114 u115 u116 u117 u118 u119 u120 u121 u122 u123 u124 u125 u126 u127 u128 u129 u130 u131 u132 u133 u134 u135 u136 u137 u138 u139 u140 u141 u142 u143 u144 u145 u146 u147 u148 u149 u150 u151 u152 u153 u154 u155 u156 u157 u158 u159 u160 u161 u162 u163 u164 u165 u166 u167 u168 u169 u170 u171 u172 u173 u174 u175 u176 u177 u178 u179 u180 u181 u182 u183 u184 u185 u186 u187 u188 u189 u190 u191 u192 u193 u194 u195 u196 u197 u198 u199 u200 u201 u202 u203 u204 u205 u206 u207 u208 u209 u210 u211 u212 u213 u214 u215 u216 u217 u218 u219 u220 u221 : Value) (wx : World), Hid (NPR w w6 nb rb (fun j => j = ob) (i + 1) wx) → Q .normal ⟨#[f0, f1, f2, f3, f4, .pointer (some ⟨nb, 0, none⟩), .pointer (some ⟨rb, 0, none⟩), f7, .pointer (some ⟨ob, 0, none⟩), u9, u10, u11, u12, u13, u14, u15, u16, u17, u18, u19, u20, u21, f22, f23, f24, f25, f26, f27, f28, f29, f30, f31, f32, f33, f34, f35, f36, f37, f38, f39, f40, f41, f42, f43, f44, f45, f46, f47, f48, f49, f50, f51, f52, f53, .int .i64 1, u55, u56, u57, u58, u59, u60, u61, u62, u63, u64, u65, u66, u67, u68, u69, u70, u71, u72, u73, u74, u75, u76, u77, u78, u79, u80, u81, u82, u83, u84, u85, u86, u87, u88, u89, u90, u91, u92, u93, u94, u95, u96, u97, u98, u99, u100, u101, u102, u103, u104, u105, u106, u107, u108, u109, u110, u111, u112, u113, u114, u115, u116, u117, u118, u119, u120, u121, u122, u123, u124, u125, u126, u127, u128, u129, u130, u131, u132, u133, u134, u135, u136, u137, u138, u139, u140, u141, u142, u143, u144, u145, u146, u147, u148, u149, u150, u151, u152, u153, u154, u155, u156, u157, u158, u159, u160, u161, u162, u163, u164, u165, u166, u167, u168, u169, u170, u171, u172, u173, u174, u175, u176, u177, u178, u179, u180, u181, u182, u183, u184, u185, u186, u187, u188, u189, u190, u191, u192, u193, u194, u195, u196, u197, u198, u199, u200, u201, u202, u203, u204, u205, u206, u207, u208, u209, u210, u211, u212, u213, u214, u215, u216, u217, u218, u219, u220, u221, f222, f223, f224, f225, f226, f227, f228, f229, f230, f231, f232, f233, f234, f235, f236, f237, f238, f239, f240, f241, f242, f243, f244, f245, f246, f247, f248, f249, f250, f251, f252, f253, f254, f255, f256, f257, f258, f259, f260, f261, f262, f263, f264, f265, f266, f267, f268, f269, f270, f271, f272, f273, f274, f275, f276, f277, f278, f279, f280, f281, f282, f283, f284, f285, f286, f287, f288, f289, f290, f291, f292, f293, f294, f295, f296, f297, f298, f299, f300, f301, f302, f303, f304, f305, f306, f307, f308, f309, f310], []⟩ wx) : c.wp Try.prog Q ⟨#[f0, f1, f2, f3, f4, .pointer (some ⟨nb, 0, none⟩), .pointer (some ⟨rb, 0, none⟩), f7, .pointer (some ⟨ob, 0, none⟩), v9, v10, v11, v12, v13, v14, v15, v16, v17, v18, v19, v20, v21, f22, f23, f24, f25, f26, f27, f28, f29, f30, f31, f32, f33, f34, f35, f36, f37, f38, f39, f40, f41, f42, f43, f44, f45, f46, f47, f48, f49, f50, f51, f52, f53, .int .i64 1, v55, v56, v57, v58, v59, v60, v61, v62, v63, v64, v65, v66, v67, v68, v69, v70, v71, v72, v73, v74, v75, v76, v77, v78, v79, v80, v81, v82, v83, v84, v85, v86, v87, v88, v89, v90, v91, v92, v93, v94, v95, v96, v97, v98, v99, v100, v101, v102, v103, v104, v105, v106, v107, v108, v109, v110, v111, v112, v113, v114, v115, v116, v117, v118, v119, v120, v121, v122, v123, v124, v125, v126, v127, v128, v129, v130, v131, v132, v133, v134, v135, v136, v137, v138, v139, v140, v141, v142, v143, v144, v145, v146, v147, v148, v149, v150, v151, v152, v153, v154, v155, v156, v157, v158, v159, v160, v161, v162, v163, v164, v165, v166, v167, v168, v169, v170, v171, v172, v173, v174, v175, v176, v177, v178, v179, v180, v181, v182, v183, v184, v185, v186, v187, v188, v189, v190, v191, v192, v193, v194, v195, v196, v197, v198, v199, v200, v201, v202, v203, v204, v205, v206, v207, v208, v209, v210, v211, v212, v213, v214, v215, v216, v217, v218, v219, v220, v221, f222, f223, f224, f225, f226, f227, f228, f229, f230, f231, f232, f233, f234, f235, f236, f237, f238, f239, f240, f241, f242, f243, f244, f245, f246, f247, f248, f249, f250, f251, f252, f253, f254, f255, f256, f257, f258, f259, f260, f261, f262, f263, f264, f265, f266, f267, f268, f269, f270, f271, f272, f273, f274, f275, f276, f277, f278, f279, f280, f281, f282, f283, f284, f285, f286, f287, f288, f289, f290, f291, f292, f293, f294, f295, f296, f297, f298, f299, f300, f301, f302, f303, f304, f305, f306, f307, f308, f309, f310], []⟩ w6 := by
  have HQ := Lib.hid hQ
  clear hQ
  obtain ⟨d, hd, hc⟩ := blk_body hc
  unfold Try.f6 at hd
  simp only [Option.some.injEq] at hd
  subst hd
  simp [blkOf] at hc
  subst hc
  obtain ⟨e0, e1, e2, e3⟩ := HOC.out w6 (Fr.refl _ _)
  have HLE := Lib.hid (lent_pk xp xn xc xz w6 ((HXZ.out.below HI6.out.bel).more HI6.out.bel.size) HX0.out (by omega))
  go_wp2_with fail
  refine HLE.out.mono ?_
  rintro e w7 ⟨g, md, rfl, hg6, hl7, hb7⟩
  have HL7 := Lib.hid hl7
  have hgl : g < w7.heap.size := by obtain ⟨g', cap, e, ho⟩ := hl7; injection e with ea eb ec; injection ea with ea; injection ea with ea _ _; subst ea; exact (ho.lt _ rfl).2
  have HI7 : Hid (NPS w w7 nb rb (fun j => j = ob ∨ j = g) (700 * i) i S (S.map stOf) C C w7) := Lib.hid (HI6.out.again hb7 (fun j hj => hj.imp id (fun e => by rw [e]; exact ⟨hg6, hgl⟩)))
  have HB7 := Lib.hid hb7
  have HO7 : Hid (∀ V, Fr (fun j => ¬ (j = ob ∨ j = g)) w7 V → V.cell? ⟨ob, 1, none⟩ = some (.int .i64 xa) ∧ V.cell? ⟨ob, 3, none⟩ = some (.slice xp xn xc)) := Lib.hid (fun V hV => by
    have h7 := HOC.out w7 (Fr.of_all (S := fun j => ¬ j = ob) hb7)
    have hl : ob < w7.heap.size := by have := hb7.size; have := HW6.out; omega
    exact ⟨(hV.cell (p := ⟨ob, 1, none⟩) hl (fun h => h (.inl rfl))).trans h7.2.1, (hV.cell (p := ⟨ob, 3, none⟩) hl (fun h => h (.inl rfl))).trans h7.2.2.2⟩)
  have q1 : ∀ q : KeptN (fun j => ¬ (j = ob ∨ j = g)) w7, q.1.cell? ⟨ob, 1, none⟩ = some (.int .i64 xa) := fun q => (HO7.out q.1 q.2).1
  have q3 : ∀ q : KeptN (fun j => ¬ (j = ob ∨ j = g)) w7, q.1.cell? ⟨ob, 3, none⟩ = some (.slice xp xn xc) := fun q => (HO7.out q.1 q.2).2
  have HFd : Hid (Fr (fun j => ¬ (j = ob ∨ j = g)) w7 w7.drew) := Lib.hid ((Fr.refl _ w7).drew)
  have HBd : Hid (Below w7.heap.size w7 w7.drew) := Lib.hid ((Below.refl _ w7).drew)
  have HIX := Lib.hid (HXZ.out)
  have HSD := Lib.hid (np_send (HI7.out.below HBd.out) (by omega) xa HAO.out xz (some ⟨g, 0, none⟩) xn md ((HL7.out.keep (HFd.out) (fun g' e h => h (.inr (by injection e with e; exact e.symm)))).rd) (fun b o e => .inr (by injection e with e; injection e with e _; exact e.symm)) HDA.out HXK.out (by omega))
  have hnr := ne_int (((sendR (isCut C) xa (S.map stOf) xz).2 : Nat) : Int)
  clear hl7 hb7 HLE e0 e1 e2 e3
  go_wp2_with fail
  refine Mix.region_mix (n := 19) (m := 11) (fun V => ∃ q : KeptN (fun j => ¬ (j = ob ∨ j = g)) w7, V = q.1) [0, 1, 2, 3, 5, 6, 7, 8, 9] (by kernel_rfl) rfl rfl (by kernel_rfl) (by kernel_rfl) ⟨⟨w7.drew, HFd.out⟩, rfl⟩ ?_
  repeat (refine Mix.picks_step rfl ?_; go_big_quiet_step (fail))
  refine Mix.picks_nil ?_
  intro inv
  refine sink_one (i := 4) (by kernel_rfl) rfl (by omega) inv (fun K hK => ?_)
  have HKK := Lib.hid hK
  clear hK
  go_simp
  go_at_call 10
  with_reducible refine HSD.out.mono ?_
  rintro e V1 ⟨rfl, S1, hm1, hV1⟩
  have HV1 := Lib.hid hV1
  have HM1 := Lib.hid hm1
  clear hV1 hm1 HSD
  refine HKK.out _ _ ⟨⟨_, HV1.out.fr⟩, rfl⟩ ?_
  clear HKK inv
  intro hS inv
  (try simp only [Act.put]); (try simp only [List.setIfInBounds_toArray]); (try simp only [List.set_cons_succ]); (try simp only [List.set_cons_zero])
  have HPL := Lib.hid (law_plain (c := xc) ((HXZ.out.below HV1.out.bel).more HV1.out.bel.size) (by omega))
  refine sink_one (i := 10) (by kernel_rfl) rfl (by omega) inv (fun K hK => ?_)
  have HKK := Lib.hid hK
  clear hK
  go_simp
  go_at_call 21
  with_reducible refine HPL.out.mono ?_
  rintro e V2 ⟨pq, pd, rfl, ho2, hb2⟩
  have HF2 : Hid (Fr (fun j => ¬ (j = ob ∨ j = g)) w7 V2) := Lib.hid (Fr.trans HV1.out.fr (Fr.of_all (S := fun _ => False) hb2) (fun _ h _ => h.elim))
  have HV2 : Hid (NPS w V2 nb rb (fun j => (j = ob ∨ j = g) ∨ (Value.slice pq xn pd).ownBlock = some j) (700 * i + xn) i S1 (S.map stOf) C C V2) := Lib.hid (HV1.out.again hb2 (fun j hj => hj.imp id (fun e => ho2.lt j e)))
  have HRS := Lib.hid (np_rsend (HV2.out) (by omega) xa xz pq xn pd (RdG.of_own ho2 HXZ.out.1) (fun b o e => .inr (by rw [e]; rfl)) (by omega))
  have HB2 := Lib.hid hb2
  clear ho2 hb2 HPL
  refine HKK.out _ _ ⟨⟨_, HF2.out⟩, rfl⟩ ?_
  clear HKK inv
  intro hS inv
  (try simp only [Act.put]); (try simp only [List.setIfInBounds_toArray]); (try simp only [List.set_cons_succ]); (try simp only [List.set_cons_zero])
  refine sink_one (i := 11) (by kernel_rfl) rfl (by omega) inv (fun K hK => ?_)
  have HKK := Lib.hid hK
  clear hK
  go_simp
  go_at_call 20
  with_reducible refine HRS.out.mono ?_
  rintro e V3 ⟨rfl, hV3⟩
  have HV3 := Lib.hid (HV1.out.back hV3 HB2.out (fun _ h => .inl h))
  clear hV3 HRS HV2
  refine HKK.out _ _ ⟨⟨_, HV3.out.fr⟩, rfl⟩ ?_
  clear HKK inv
  intro hS inv
  (try simp only [Act.put]); (try simp only [List.setIfInBounds_toArray]); (try simp only [List.set_cons_succ]); (try simp only [List.set_cons_zero])
  refine Mix.more [12, 13, 14, 15, 16] (m := 3) rfl (by kernel_rfl) (by kernel_rfl) inv ⟨⟨_, HV3.out.fr⟩, rfl⟩ ?_
  repeat (refine Mix.picks_step rfl ?_; go_big_quiet_step (fail))
  refine Mix.picks_nil ?_
  clear inv
  intro inv
  have HSY := Lib.hid (stays_pk _ g xp xn md xc xz V3 (HL7.out.keep HV3.out.fr (fun g' e h => h (.inr (by injection e with e; exact e.symm)))) ((HXZ.out.below HV3.out.bel).more HV3.out.bel.size) (by omega))
  refine sink_one (i := 17) (by kernel_rfl) rfl (by omega) inv (fun K hK => ?_)
  have HKK := Lib.hid hK
  clear hK
  go_simp
  go_at_call 22
  with_reducible refine HSY.out.mono ?_
  rintro e V4 ⟨rfl, hb4⟩
  have HV4 := Lib.hid (HV3.out.below hb4)
  clear hb4 HSY
  refine HKK.out _ _ ⟨⟨_, HV4.out.fr⟩, rfl⟩ ?_
  clear HKK inv
  intro hS inv
  (try simp only [Act.put]); (try simp only [List.setIfInBounds_toArray]); (try simp only [List.set_cons_succ]); (try simp only [List.set_cons_zero])
  refine Mix.more [18] (m := 1) rfl (by kernel_rfl) (by kernel_rfl) inv ⟨⟨_, HV4.out.fr⟩, rfl⟩ ?_
  repeat (refine Mix.picks_step rfl ?_; go_big_quiet_step (fail))
  refine Mix.picks_nil ?_
  clear inv
  intro inv
  refine sink_last (by kernel_rfl) rfl (by kernel_rfl) (fun K hK => ?_)
  have HKK := Lib.hid hK
  clear hK
  go_simp
  refine HKK.out _ _ ⟨rfl, ?_⟩
  have HN : Hid (NPR w w6 nb rb (fun j => j = ob) (i + 1) V4) := Lib.hid (NPR.of (C := C) (S := S1) (by rw [HM1.out]; exact HI6.out.back HV4.out HB7.out (fun _ h => .inl h)) (by omega) (by omega))
  clear HKK inv hS q1 q3
  go_wp2
  exact HQ.out _ _ _ _ _ _ _ _ _ _ _ _ _ _ _ _ _ _ _ _ _ _ _ _ _ _ _ _ _ _ _ _ _ _ _ _ _ _ _ _ _ _ _ _ _ _ _ _ _ _ _ _ _ _ _ _ _ _ _ _ _ _ _ _ _ _ _ _ _ _ _ _ _ _ _ _ _ _ _ _ _ _ _ _ _ _ _ _ _ _ _ _ _ _ _ _ _ _ _ _ _ _ _ _ _ _ _ _ _ _ _ _ _ _ _ _ _ _ _ _ _ _ _ _ _ _ _ _ _ _ _ _ _ _ _ _ _ _ _ _ _ _ _ _ _ _ _ _ _ _ _ _ _ _ _ _ _ _ _ _ _ _ _ _ _ _ _ _ _ _ _ _ _ _ _ _ _ _ _ _ _ HN
end Go.Proofs.Ythdpajgnigilhaa
