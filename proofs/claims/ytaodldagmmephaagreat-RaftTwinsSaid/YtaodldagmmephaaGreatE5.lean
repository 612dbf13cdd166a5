/- Merged texts: Tw5 Tw6. -/
import Derived.Test.YtaodldagmmephaaGreatE4
import Derived.Test.YtaodldagmmephaaGreatA1
/- arboretumlaw20.RaftTwins: one step. -/
namespace Go.Proofs.YtaodldagmmephaaGreat
open Go.RowKit Go.Maps
section
variable {P : Program} {md : Region.Mode} {ops : Array Oper} {Q : Exit → Act → World → Prop} {S : World → Prop}
/-- Three operations may come up. -/
theorem sink_threeT {n i j k : Nat} {o o2 o3 : Oper} {fuel : Nat} {listed : Array Bool} {a : Act} {w : World} (hr : Region.ready md ops listed = [i, j, k]) (hi : ops[i]? = some o) (hj : ops[j]? = some o2) (hk3 : ops[k]? = some o3) (hin : i < n) (hjn : j < n) (hkn : k < n) (inv : HeadInv md ops n listed)
    (h : ∀ K : Act → World → Prop, (∀ a' w', S w' → (S w' → HeadInv md ops n (listed.setIfInBounds i true) → WpSink P md ops Q S n fuel (listed.setIfInBounds i true) a' w') → K a' w') →
      if Region.wanted o (yielded ops a.tmps) = true then Oper.wp P o a w K Q else K (a.put o.dst undef) w)
    (h2 : ∀ K : Act → World → Prop, (∀ a' w', S w' → (S w' → HeadInv md ops n (listed.setIfInBounds j true) → WpSink P md ops Q S n fuel (listed.setIfInBounds j true) a' w') → K a' w') →
      if Region.wanted o2 (yielded ops a.tmps) = true then Oper.wp P o2 a w K Q else K (a.put o2.dst undef) w)
    (h3 : ∀ K : Act → World → Prop, (∀ a' w', S w' → (S w' → HeadInv md ops n (listed.setIfInBounds k true) → WpSink P md ops Q S n fuel (listed.setIfInBounds k true) a' w') → K a' w') →
      if Region.wanted o3 (yielded ops a.tmps) = true then Oper.wp P o3 a w K Q else K (a.put o3.dst undef) w) : WpSink P md ops Q S n (fuel + 1) listed a w := by
  refine ⟨fun h0 => (by rw [h0] at hr; cases hr), fun m hm => ?_⟩
  rw [hr] at hm
  rcases List.mem_cons.1 hm with rfl | hm
  · have h9 := h (fun a' w' => (m ≠ n → S w') ∧ WpSink P md ops Q S n fuel (listed.setIfInBounds m true) a' w') (fun a' w' hS hK => ⟨fun _ => hS, hK hS (inv.set (by rw [hr]; exact List.mem_cons_self) hin)⟩)
    unfold wpOp
    simp only [hi]
    split
    · rename_i hw
      rw [if_pos hw] at h9
      exact .inl h9
    · rename_i hw
      rw [if_neg hw] at h9
      exact h9
  · rcases List.mem_cons.1 hm with rfl | hm
    · have h9 := h2 (fun a' w' => (m ≠ n → S w') ∧ WpSink P md ops Q S n fuel (listed.setIfInBounds m true) a' w') (fun a' w' hS hK => ⟨fun _ => hS, hK hS (inv.set (by rw [hr]; exact List.mem_cons_of_mem _ List.mem_cons_self) hjn)⟩)
      unfold wpOp
      simp only [hj]
      split
      · rename_i hw
        rw [if_pos hw] at h9
        exact .inl h9
      · rename_i hw
        rw [if_neg hw] at h9
        exact h9
    · obtain rfl : m = k := by simpa using hm
      have h9 := h3 (fun a' w' => (m ≠ n → S w') ∧ WpSink P md ops Q S n fuel (listed.setIfInBounds m true) a' w') (fun a' w' hS hK => ⟨fun _ => hS, hK hS (inv.set (by rw [hr]; exact List.mem_cons_of_mem _ (List.mem_cons_of_mem _ hm)) hkn)⟩)
      unfold wpOp
      simp only [hk3]
      split
      · rename_i hw
        rw [if_pos hw] at h9
        exact .inl h9
      · rename_i hw
        rw [if_neg hw] at h9
        exact h9
end
section
variable {P : Program} {md : Region.Mode} {ops : Array Oper} {Q : Exit → Act → World → Prop} {S : World → Prop}
theorem wp_castT {n f : Nat} {l l' : Array Bool} {a : Act} {w : World} (e : l = l') (h : WpSink P md ops Q S n f l' a w) : WpSink P md ops Q S n f l a w := by subst e; exact h
theorem inv_castT {n : Nat} {l l' : Array Bool} (e : l = l') (h : HeadInv md ops n l) : HeadInv md ops n l' := by subst e; exact h
/-- What stands behind whatever order is shown once. -/
theorem leafT {n f : Nat} {l : Array Bool} {a : Act} {w : World} (l' : Array Bool) (f' : Nat) (o : RF.Ot) (facts : RF.Hd → RF.Hd → RF.TV → RF.TV → Nat → Nat → World → Prop)
    (hleaf : ∀ (ha hb : RF.Hd) (t u : RF.TV) (b8 b9 : Nat) (W : World), facts ha hb t u b8 b9 W → HeadInv md ops n l' → WpSink P md ops Q S n f' l' ((((a.put (some 71) (t.val o)).put (some 77) (u.val o)).put (some 8) (.pointer (some ⟨b8, 0, none⟩))).put (some 9) (.pointer (some ⟨b9, 0, none⟩))) W)
    (hgo : (∀ (ha hb : RF.Hd) (t u : RF.TV) (b8 b9 : Nat) (W : World), facts ha hb t u b8 b9 W → HeadInv md ops n l' → WpSink P md ops Q S n f' l' ((((a.put (some 71) (t.val o)).put (some 77) (u.val o)).put (some 8) (.pointer (some ⟨b8, 0, none⟩))).put (some 9) (.pointer (some ⟨b9, 0, none⟩))) W) → WpSink P md ops Q S n f l a w) : WpSink P md ops Q S n f l a w := hgo hleaf
theorem quLd {C : World → Prop} {K : Act → Prop} {rest : List Oper} {a : Act} {x : Operand} {d : Option Tmp} {t ty : TypeId} {pos : String} {af : Array Edge} {g : Option (Nat × Bool)} {ad : Addr} {v : Value} (hit : a.eval x = .pointer (some ad)) (hrun : ∀ w, C w → (loadVar t ad).run P w = .ok v w) (hw : Region.wanted ⟨d, .load t x, ty, pos, af, g⟩ (yielded ops a.tmps) = true) (h : wpQuiet P ops C K rest (a.put d v)) : wpQuiet P ops C K (⟨d, .load t x, ty, pos, af, g⟩ :: rest) a := by
  unfold wpQuiet
  rw [if_pos hw]
  refine ⟨v, fun w hC => ?_, h⟩
  have e3 : (execOp a.eval ⟨d, .load t x, ty, pos, af, g⟩).run P w = .ok (.value v) w := by
    simp [execOp, hit, hrun w hC, Instr.loadAt, Instr.sureAddr, Result.andThen]
  unfold Oper.quietAt
  rw [e3]
  exact ⟨rfl, rfl⟩
end
namespace RF
set_option maxHeartbeats 40000000 in
set_option maxRecDepth 100000 in
theorem tw12 {c : Code} (hc : (Tryz.f11).body.bind (aftTest 10) = some c) {Q : Exit → Act → World → Prop} {w wr : World} {ra Ba rb Bb pb po nl cl i : Nat} {s : RS} {ha hb : Hd} {o : OpL} {f1 f4 f6 f12 f13 f14 f15 f16 f17 f18 f19 f20 f21 f22 f23 f24 f25 f26 f27 f28 f29 f30 f31 f32 f33 f34 f35 f36 f37 f38 f39 f40 f41 f42 f43 f44 f45 f46 f47 f48 f49 f50 f51 f52 f53 f54 f55 f56 f57 f58 f59 f60 f61 f62 f63 f64 f65 f145 v2 v8 v9 v10 v11 v66 v67 v68 v69 v70 v71 v72 v73 v74 v75 v76 v77 v78 v79 v80 v81 v82 v83 v84 v85 v86 v87 v88 v89 v90 v91 v92 v93 v94 v95 v96 v97 v98 v99 v100 v101 v102 v103 v104 v105 v106 v107 v108 v109 v110 v111 v112 v113 v114 v115 v116 v117 v118 v119 v120 v121 v122 v123 v124 v125 v126 v127 v128 v129 v130 v131 v132 v133 v134 v135 v136 v137 v138 v139 v140 v141 v142 v143 v144 : Value} (HP : Hid (Ts w ra Ba s ha i wr ∧ Ts w rb Bb s hb i wr ∧ ∀ x, Fo ra ha x → ¬ Fo rb hb x)) (HIL : Hid (i < 200)) (hlt : i < nl) (HOK : Hid (OpOk2 o w)) (HSI : Hid (o.m.en.length ≤ 40 ∧ (∀ y ∈ o.m.en, y.da.size ≤ 12000) ∧ o.st.size ≤ 3000)) (HCZ : Hid (∀ j u, (opcells o)[j]? = some u → ∀ W, Below w.heap.size w W → W.cell? ⟨pb, po + i * 22 + j, none⟩ = some u)) (HBB : Hid (o.m.ix ≤ 1099511627776 ∧ o.six ≤ 1099511627776))
    (hQ : ∀ (u2 u8 u9 u10 u11 u66 u67 u68 u69 u70 u71 u72 u73 u74 u75 u76 u77 u78 u79 u80 u81 u82 u83 u84 u85 u86 u87 u88 u89 u90 u91 u92 u93 u94 u95 u96 u97 u98 u99 u100 u101 u102 u103 u104 u105 u106 u107 u108 u109 u110 u111 u112 u113 u114 u115 u116 u117 u118 u119 u120 u121 u122 u123 u124 u125 u126 u127 u128 u129 u130 u131 u132 u133 u134 u135 u136 u137 u138 u139 u140 u141 u142 u143 u144 : Value) (z3 : RS) (ha3 hb3 : Hd) (wx : World), Hid (Ts w ra Ba z3 ha3 (i + 1) wx ∧ Ts w rb Bb z3 hb3 (i + 1) wx ∧ ∀ x, Fo ra ha3 x → ¬ Fo rb hb3 x) → Q .normal ⟨#[.slice (some ⟨pb, po, none⟩) nl cl, f1, u2, .pointer (some ⟨ra, 0, none⟩), f4, .pointer (some ⟨rb, 0, none⟩), f6, .int .i64 (i : Int), u8, u9, u10, u11, f12, f13, f14, f15, f16, f17, f18, f19, f20, f21, f22, f23, f24, f25, f26, f27, f28, f29, f30, f31, f32, f33, f34, f35, f36, f37, f38, f39, f40, f41, f42, f43, f44, f45, f46, f47, f48, f49, f50, f51, f52, f53, f54, f55, f56, f57, f58, f59, f60, f61, f62, f63, f64, f65, u66, u67, u68, u69, u70, u71, u72, u73, u74, u75, u76, u77, u78, u79, u80, u81, u82, u83, u84, u85, u86, u87, u88, u89, u90, u91, u92, u93, u94, u95, u96, u97, u98, u99, u100, u101, u102, u103, u104, u105, u106, u107, u108, u109, u110, u111, u112, u113, u114, u115, u116, u117, u118, u119, u120, u121, u122, u123, u124, u125, u126, u127, u128, u129, u130, u131, u132, u133, u134, u135, u136, u137, u138, u139, u140, u141, u142, u143, u144, f145], []⟩ wx) : c.wp Tryz.prog Q ⟨#[.slice (some ⟨pb, po, none⟩) nl cl, f1, v2, .pointer (some ⟨ra, 0, none⟩), f4, .pointer (some ⟨rb, 0, none⟩), f6, .int .i64 (i : Int), v8, v9, v10, v11, f12, f13, f14, f15, f16, f17, f18, f19, f20, f21, f22, f23, f24, f25, f26, f27, f28, f29, f30, f31, f32, f33, f34, f35, f36, f37, f38, f39, f40, f41, f42, f43, f44, f45, f46, f47, f48, f49, f50, f51, f52, f53, f54, f55, f56, f57, f58, f59, f60, f61, f62, f63, f64, f65, v66, v67, v68, v69, v70, v71, v72, v73, v74, v75, v76, v77, v78, v79, v80, v81, v82, v83, v84, v85, v86, v87, v88, v89, v90, v91, v92, v93, v94, v95, v96, v97, v98, v99, v100, v101, v102, v103, v104, v105, v106, v107, v108, v109, v110, v111, v112, v113, v114, v115, v116, v117, v118, v119, v120, v121, v122, v123, v124, v125, v126, v127, v128, v129, v130, v131, v132, v133, v134, v135, v136, v137, v138, v139, v140, v141, v142, v143, v144, f145], []⟩ wr := by
  have HQ := Lib.hid hQ
  clear hQ
  obtain ⟨d, hd, hc⟩ := aft_test hc
  unfold Tryz.f11 at hd
  simp only [Option.some.injEq] at hd
  subst hd
  simp [aftTest, headReg] at hc
  subst hc
  have hltI : (i : Int) < (nl : Int) := by omega
  obtain ⟨ms, hms⟩ := HOK.out.2
  have hts := hear_toldA HP.out.1.th HIL.out o ms HSI.out.1 HSI.out.2.1 HSI.out.2.2 HBB.out.2
  have HHA : Hid (∀ (r B : Nat) (h : Hd) (W : World), Ts w r B s h i W → Calls Tryz.prog 35 #[.pointer (some ⟨r, 0, none⟩), .agg #[.int .i64 o.kd, .int .i64 o.a, .int .i64 o.b, .int .i64 o.m.kd, .int .i64 o.m.fr, .int .i64 o.m.tq, .int .i64 o.m.tm, .int .i64 o.m.ix, .int .i64 o.m.lt, .int .i64 o.m.cm, .int .i64 o.m.rd, .bool o.m.ok, .bool o.x.dn, .slice o.x.pe o.m.en.length o.x.ce, .slice o.x.pm o.x.nm o.x.cm, .int .i64 o.x.of, .slice o.x.pp o.x.np o.x.cp, .string o.st, .slice o.lp o.ln o.lc, .int .i64 o.six, .int .i64 o.stm, .slice o.sp o.sn o.sc]] W (Ans r B (s.hearA o ms) h W)) := Lib.hid (fun r B h W T => hear_ts T HIL.out HOK.out ms hms HSI.out HBB.out)
  have HTH := Lib.hid hts.1
  have HSY := Lib.hid hts.2
  clear hts hms
  generalize s.hearA o ms = z at *
  have hld : ∀ W, (∃ q : Later w, W = q.1) → (loadVar 83 ⟨pb, po + i * 22, none⟩).run Tryz.prog W = .ok (.agg #[.int .i64 o.kd, .int .i64 o.a, .int .i64 o.b, .int .i64 o.m.kd, .int .i64 o.m.fr, .int .i64 o.m.tq, .int .i64 o.m.tm, .int .i64 o.m.ix, .int .i64 o.m.lt, .int .i64 o.m.cm, .int .i64 o.m.rd, .bool o.m.ok, .bool o.x.dn, .slice o.x.pe o.m.en.length o.x.ce, .slice o.x.pm o.x.nm o.x.cm, .int .i64 o.x.of, .slice o.x.pp o.x.np o.x.cp, .string o.st, .slice o.lp o.ln o.lc, .int .i64 o.six, .int .i64 o.stm, .slice o.sp o.sn o.sc]) W := fun W hW => by
    obtain ⟨q, rfl⟩ := hW
    exact load_op2 o pb (po + i * 22) q.1 (fun j u hu => HCZ.out j u hu q.1 q.2)
  have HD0 : Hid (Below w.heap.size w wr.drew) := Lib.hid (HP.out.1.bel.drew)
  have hS0 : St w ra Ba rb Bb ha hb s i s i z.told none none none none wr.drew := by
    have hb0 : Below wr.heap.size wr wr.drew := (Below.refl _ wr).drew
    refine ⟨HP.out.1.below hb0, HP.out.2.1.below hb0, HP.out.2.2, fun t h => (by cases h), fun t h => (by cases h), fun b h => ?_, fun b c h => (by cases h)⟩
    rcases h with h | h <;> cases h
  have HW0 := Lib.hid hS0
  clear hS0
  (try simp only [])
  go_upto_region 12 with fail
  go_cut [8, 9] from 66 to 77 (fun s8 s9 wx => ∃ (b8 b9 : Nat) (ha' hb' : Hd) (t u : TV), s8 = .pointer (some ⟨b8, 0, none⟩) ∧ s9 = .pointer (some ⟨b9, 0, none⟩) ∧ Hid (Dn w ra Ba rb Bb ha' hb' z.fin (i + 1) z.told t u b8 b9 wx))
  case first =>
      go_wp2_with fail
      refine Mix.region_mix (n := 15) (m := 6) (fun V => ∃ q : Later w, V = q.1) [0, 1, 2, 3, 4, 6, 7, 8, 9, 10] (by kernel_rfl) rfl rfl (by kernel_rfl) (by kernel_rfl) ⟨⟨_, HD0.out⟩, rfl⟩ ?_
      refine Mix.picks_step rfl ?_; go_big_quiet_step (fail)
      refine Mix.picks_step rfl ?_; go_big_quiet_step (fail)
      refine Mix.picks_step rfl ?_; go_big_quiet_step (fail)
      refine Mix.picks_step rfl ?_; go_big_quiet_step (fail)
      refine Mix.picks_step rfl ?_; refine quLd (by rfl) hld (by rfl) ?_; simp only [Act.put, List.setIfInBounds_toArray, List.set_cons_succ, List.set_cons_zero]
      refine Mix.picks_step rfl ?_; go_big_quiet_step (fail)
      refine Mix.picks_step rfl ?_; go_big_quiet_step (fail)
      refine Mix.picks_step rfl ?_; go_big_quiet_step (fail)
      refine Mix.picks_step rfl ?_; go_big_quiet_step (fail)
      refine Mix.picks_step rfl ?_; refine quLd (by rfl) hld (by rfl) ?_; simp only [Act.put, List.setIfInBounds_toArray, List.set_cons_succ, List.set_cons_zero]
      refine Mix.picks_nil ?_
      intro inv
      clear hld
      (try simp only [Act.put]); (try simp only [List.setIfInBounds_toArray]); (try simp only [List.set_cons_succ]); (try simp only [List.set_cons_zero])
      generalize wr.drew = W0 at *
      refine leafT #[true, true, true, true, true, true, true, true, true, true, true, true, true, true, false, false] 2 z.told (fun ha' hb' t u b8 b9 W => St w ra Ba rb Bb ha' hb' z.fin (i + 1) z.fin (i + 1) z.told (some t) (some u) (some b8) (some b9) W) ?_ ?_
      · intro ha' hb' t u b8 b9 W hS inv2
        have HS := Lib.hid hS
        have F8 := Lib.hid (hS.bx b8 (.inl rfl)).1
        have F9 := Lib.hid (hS.bx b9 (.inr rfl)).1
        have hne := hS.ne b8 b9 rfl rfl
        have hne2 : b9 ≠ b8 := fun e => hne e.symm
        have HG := Lib.hid hS.put.1
        have HF := Lib.hid hS.put.2
        clear hS inv
        have inv := inv2
        clear inv2
        unfold TV.val
        simp only [Act.put, List.setIfInBounds_toArray, List.set_cons_succ, List.set_cons_zero]
        have z0 := F8.out.1 0 _ rfl
        have z1 := F8.out.1 1 _ rfl
        have z2 := F8.out.1 2 _ rfl
        have z3 := F8.out.1 3 _ rfl
        have y0 := F8.out.2.1 0 (by show 0 < 4; omega)
        have y1 := F8.out.2.1 1 (by show 1 < 4; omega)
        have y2 := F8.out.2.1 2 (by show 2 < 4; omega)
        have y3 := F8.out.2.1 3 (by show 3 < 4; omega)
        have zz0 := F9.out.1 0 _ rfl
        have zz1 := F9.out.1 1 _ rfl
        have zz2 := F9.out.1 2 _ rfl
        have zz3 := F9.out.1 3 _ rfl
        have yy0 := F9.out.2.1 0 (by show 0 < 4; omega)
        have yy1 := F9.out.2.1 1 (by show 1 < 4; omega)
        have yy2 := F9.out.2.1 2 (by show 2 < 4; omega)
        have yy3 := F9.out.2.1 3 (by show 3 < 4; omega)
        unfold set4 at HG HF
        refine sink_one (i := 14) (by kernel_rfl) rfl (by omega) inv (fun K hK => ?_)
        have HKK := Lib.hid hK
        clear hK
        go_simp
        refine HKK.out _ _ ⟨⟨_, HG.out⟩, rfl⟩ ?_
        clear HKK inv
        intro hS inv
        (try simp only [Act.put]); (try simp only [List.setIfInBounds_toArray]); (try simp only [List.set_cons_succ]); (try simp only [List.set_cons_zero])
        refine sink_last (by kernel_rfl) rfl (by kernel_rfl) (fun K hK => ?_)
        have HKK := Lib.hid hK
        clear hK
        go_simp
        refine HKK.out _ _ ⟨rfl, ?_⟩
        clear HKK inv hS
        go_wp2
        go_meet
        case rel => exact ⟨b8, b9, ha', hb', t, u, rfl, rfl, HF⟩
      intro leaf
      simp only [Act.put, List.setIfInBounds_toArray, List.set_cons_succ, List.set_cons_zero] at leaf
      have LEAF := Lib.hid leaf
      clear leaf
      refine sink_threeT (i := 5) (j := 12) (k := 13) (by kernel_rfl) rfl rfl rfl (by omega) (by omega) (by omega) inv (fun K hK => ?_) (fun K hK => ?_) (fun K hK => ?_)
      · have HKK := Lib.hid hK
        clear hK
        go_simp
        with_reducible refine (HHA.out _ _ _ _ HW0.out.a).mono ?_
        rintro e V1 hA
        obtain ⟨hxV1, txV1, rfl, hSV1⟩ := HW0.out.callA hA HTH.out
        have HV1 := Lib.hid hSV1
        clear hA hSV1 HW0
        refine HKK.out _ _ ⟨⟨_, HV1.out.a.bel⟩, rfl⟩ ?_
        clear HKK inv
        intro hS inv
        (try simp only [Act.put]); (try simp only [List.setIfInBounds_toArray]); (try simp only [List.set_cons_succ]); (try simp only [List.set_cons_zero])
        refine sink_threeT (i := 11) (j := 12) (k := 13) (by kernel_rfl) rfl rfl rfl (by omega) (by omega) (by omega) inv (fun K hK => ?_) (fun K hK => ?_) (fun K hK => ?_)
        · have HKK := Lib.hid hK
          clear hK
          go_simp
          with_reducible refine (HHA.out _ _ _ _ HV1.out.b).mono ?_
          rintro e V2 hA
          obtain ⟨hxV2, txV2, rfl, hSV2⟩ := HV1.out.callB hA HTH.out
          have HV2 := Lib.hid hSV2
          clear hA hSV2 HV1
          refine HKK.out _ _ ⟨⟨_, HV2.out.a.bel⟩, rfl⟩ ?_
          clear HKK inv
          intro hS inv
          (try simp only [Act.put]); (try simp only [List.setIfInBounds_toArray]); (try simp only [List.set_cons_succ]); (try simp only [List.set_cons_zero])
          refine sink_two (i := 12) (j := 13) (by kernel_rfl) rfl rfl (by omega) (by omega) inv (fun K hK => ?_) (fun K hK => ?_)
          · have HKK := Lib.hid hK
            clear hK
            go_simp
            have hSV3 := HV2.out.al8 37
            unfold zer at hSV3
            dsimp only [List.toArray] at hSV3
            have hLV3 := hSV3.a.bel
            have HV3 := Lib.hid hSV3
            clear hSV3 HV2
            refine HKK.out _ _ ⟨⟨_, hLV3⟩, rfl⟩ ?_
            clear HKK inv
            intro hS inv
            (try simp only [Act.put]); (try simp only [List.setIfInBounds_toArray]); (try simp only [List.set_cons_succ]); (try simp only [List.set_cons_zero])
            clear hLV3
            generalize V2.alloc (.cells #[.slice none 0 0, .bool false, .int .i64 0, .slice none 0 0] 37) = V3 at *
            generalize V2.heap.size = b8 at *
            refine sink_one (i := 13) (by kernel_rfl) rfl (by omega) inv (fun K hK => ?_)
            have HKK := Lib.hid hK
            clear hK
            go_simp
            have hSV4 := HV3.out.al9 37
            unfold zer at hSV4
            dsimp only [List.toArray] at hSV4
            have hLV4 := hSV4.a.bel
            have HV4 := Lib.hid hSV4
            clear hSV4 HV3
            refine HKK.out _ _ ⟨⟨_, hLV4⟩, rfl⟩ ?_
            clear HKK inv
            intro hS inv
            (try simp only [Act.put]); (try simp only [List.setIfInBounds_toArray]); (try simp only [List.set_cons_succ]); (try simp only [List.set_cons_zero])
            clear hLV4
            generalize V3.alloc (.cells #[.slice none 0 0, .bool false, .int .i64 0, .slice none 0 0] 37) = V4 at *
            generalize V3.heap.size = b9 at *
            refine wp_castT (l' := #[true, true, true, true, true, true, true, true, true, true, true, true, true, true, false, false]) (by kernel_rfl) ?_
            exact LEAF.out _ _ _ _ _ _ _ HV4.out (inv_castT (l' := #[true, true, true, true, true, true, true, true, true, true, true, true, true, true, false, false]) (by kernel_rfl) inv)
          · have HKK := Lib.hid hK
            clear hK
            go_simp
            have hSV5 := HV2.out.al9 37
            unfold zer at hSV5
            dsimp only [List.toArray] at hSV5
            have hLV5 := hSV5.a.bel
            have HV5 := Lib.hid hSV5
            clear hSV5 HV2
            refine HKK.out _ _ ⟨⟨_, hLV5⟩, rfl⟩ ?_
            clear HKK inv
            intro hS inv
            (try simp only [Act.put]); (try simp only [List.setIfInBounds_toArray]); (try simp only [List.set_cons_succ]); (try simp only [List.set_cons_zero])
            clear hLV5
            generalize V2.alloc (.cells #[.slice none 0 0, .bool false, .int .i64 0, .slice none 0 0] 37) = V5 at *
            generalize V2.heap.size = b9 at *
            refine sink_one (i := 12) (by kernel_rfl) rfl (by omega) inv (fun K hK => ?_)
            have HKK := Lib.hid hK
            clear hK
            go_simp
            have hSV6 := HV5.out.al8 37
            unfold zer at hSV6
            dsimp only [List.toArray] at hSV6
            have hLV6 := hSV6.a.bel
            have HV6 := Lib.hid hSV6
            clear hSV6 HV5
            refine HKK.out _ _ ⟨⟨_, hLV6⟩, rfl⟩ ?_
            clear HKK inv
            intro hS inv
            (try simp only [Act.put]); (try simp only [List.setIfInBounds_toArray]); (try simp only [List.set_cons_succ]); (try simp only [List.set_cons_zero])
            clear hLV6
            generalize V5.alloc (.cells #[.slice none 0 0, .bool false, .int .i64 0, .slice none 0 0] 37) = V6 at *
            generalize V5.heap.size = b8 at *
            refine wp_castT (l' := #[true, true, true, true, true, true, true, true, true, true, true, true, true, true, false, false]) (by kernel_rfl) ?_
            exact LEAF.out _ _ _ _ _ _ _ HV6.out (inv_castT (l' := #[true, true, true, true, true, true, true, true, true, true, true, true, true, true, false, false]) (by kernel_rfl) inv)
        · have HKK := Lib.hid hK
          clear hK
          go_simp
          have hSV7 := HV1.out.al8 37
          unfold zer at hSV7
          dsimp only [List.toArray] at hSV7
          have hLV7 := hSV7.a.bel
          have HV7 := Lib.hid hSV7
          clear hSV7 HV1
          refine HKK.out _ _ ⟨⟨_, hLV7⟩, rfl⟩ ?_
          clear HKK inv
          intro hS inv
          (try simp only [Act.put]); (try simp only [List.setIfInBounds_toArray]); (try simp only [List.set_cons_succ]); (try simp only [List.set_cons_zero])
          clear hLV7
          generalize V1.alloc (.cells #[.slice none 0 0, .bool false, .int .i64 0, .slice none 0 0] 37) = V7 at *
          generalize V1.heap.size = b8 at *
          refine sink_two (i := 11) (j := 13) (by kernel_rfl) rfl rfl (by omega) (by omega) inv (fun K hK => ?_) (fun K hK => ?_)
          · have HKK := Lib.hid hK
            clear hK
            go_simp
            with_reducible refine (HHA.out _ _ _ _ HV7.out.b).mono ?_
            rintro e V8 hA
            obtain ⟨hxV8, txV8, rfl, hSV8⟩ := HV7.out.callB hA HTH.out
            have HV8 := Lib.hid hSV8
            clear hA hSV8 HV7
            refine HKK.out _ _ ⟨⟨_, HV8.out.a.bel⟩, rfl⟩ ?_
            clear HKK inv
            intro hS inv
            (try simp only [Act.put]); (try simp only [List.setIfInBounds_toArray]); (try simp only [List.set_cons_succ]); (try simp only [List.set_cons_zero])
            refine sink_one (i := 13) (by kernel_rfl) rfl (by omega) inv (fun K hK => ?_)
            have HKK := Lib.hid hK
            clear hK
            go_simp
            have hSV9 := HV8.out.al9 37
            unfold zer at hSV9
            dsimp only [List.toArray] at hSV9
            have hLV9 := hSV9.a.bel
            have HV9 := Lib.hid hSV9
            clear hSV9 HV8
            refine HKK.out _ _ ⟨⟨_, hLV9⟩, rfl⟩ ?_
            clear HKK inv
            intro hS inv
            (try simp only [Act.put]); (try simp only [List.setIfInBounds_toArray]); (try simp only [List.set_cons_succ]); (try simp only [List.set_cons_zero])
            clear hLV9
            generalize V8.alloc (.cells #[.slice none 0 0, .bool false, .int .i64 0, .slice none 0 0] 37) = V9 at *
            generalize V8.heap.size = b9 at *
            refine wp_castT (l' := #[true, true, true, true, true, true, true, true, true, true, true, true, true, true, false, false]) (by kernel_rfl) ?_
            exact LEAF.out _ _ _ _ _ _ _ HV9.out (inv_castT (l' := #[true, true, true, true, true, true, true, true, true, true, true, true, true, true, false, false]) (by kernel_rfl) inv)
          · have HKK := Lib.hid hK
            clear hK
            go_simp
            have hSV10 := HV7.out.al9 37
            unfold zer at hSV10
            dsimp only [List.toArray] at hSV10
            have hLV10 := hSV10.a.bel
            have HV10 := Lib.hid hSV10
            clear hSV10 HV7
            refine HKK.out _ _ ⟨⟨_, hLV10⟩, rfl⟩ ?_
            clear HKK inv
            intro hS inv
            (try simp only [Act.put]); (try simp only [List.setIfInBounds_toArray]); (try simp only [List.set_cons_succ]); (try simp only [List.set_cons_zero])
            clear hLV10
            generalize V7.alloc (.cells #[.slice none 0 0, .bool false, .int .i64 0, .slice none 0 0] 37) = V10 at *
            generalize V7.heap.size = b9 at *
            refine sink_one (i := 11) (by kernel_rfl) rfl (by omega) inv (fun K hK => ?_)
            have HKK := Lib.hid hK
            clear hK
            go_simp
            with_reducible refine (HHA.out _ _ _ _ HV10.out.b).mono ?_
            rintro e V11 hA
            obtain ⟨hxV11, txV11, rfl, hSV11⟩ := HV10.out.callB hA HTH.out
            have HV11 := Lib.hid hSV11
            clear hA hSV11 HV10
            refine HKK.out _ _ ⟨⟨_, HV11.out.a.bel⟩, rfl⟩ ?_
            clear HKK inv
            intro hS inv
            (try simp only [Act.put]); (try simp only [List.setIfInBounds_toArray]); (try simp only [List.set_cons_succ]); (try simp only [List.set_cons_zero])
            refine wp_castT (l' := #[true, true, true, true, true, true, true, true, true, true, true, true, true, true, false, false]) (by kernel_rfl) ?_
            exact LEAF.out _ _ _ _ _ _ _ HV11.out (inv_castT (l' := #[true, true, true, true, true, true, true, true, true, true, true, true, true, true, false, false]) (by kernel_rfl) inv)
        · have HKK := Lib.hid hK
          clear hK
          go_simp
          have hSV12 := HV1.out.al9 37
          unfold zer at hSV12
          dsimp only [List.toArray] at hSV12
          have hLV12 := hSV12.a.bel
          have HV12 := Lib.hid hSV12
          clear hSV12 HV1
          refine HKK.out _ _ ⟨⟨_, hLV12⟩, rfl⟩ ?_
          clear HKK inv
          intro hS inv
          (try simp only [Act.put]); (try simp only [List.setIfInBounds_toArray]); (try simp only [List.set_cons_succ]); (try simp only [List.set_cons_zero])
          clear hLV12
          generalize V1.alloc (.cells #[.slice none 0 0, .bool false, .int .i64 0, .slice none 0 0] 37) = V12 at *
          generalize V1.heap.size = b9 at *
          refine sink_two (i := 11) (j := 12) (by kernel_rfl) rfl rfl (by omega) (by omega) inv (fun K hK => ?_) (fun K hK => ?_)
          · have HKK := Lib.hid hK
            clear hK
            go_simp
            with_reducible refine (HHA.out _ _ _ _ HV12.out.b).mono ?_
            rintro e V13 hA
            obtain ⟨hxV13, txV13, rfl, hSV13⟩ := HV12.out.callB hA HTH.out
            have HV13 := Lib.hid hSV13
            clear hA hSV13 HV12
            refine HKK.out _ _ ⟨⟨_, HV13.out.a.bel⟩, rfl⟩ ?_
            clear HKK inv
            intro hS inv
            (try simp only [Act.put]); (try simp only [List.setIfInBounds_toArray]); (try simp only [List.set_cons_succ]); (try simp only [List.set_cons_zero])
            refine sink_one (i := 12) (by kernel_rfl) rfl (by omega) inv (fun K hK => ?_)
            have HKK := Lib.hid hK
            clear hK
            go_simp
            have hSV14 := HV13.out.al8 37
            unfold zer at hSV14
            dsimp only [List.toArray] at hSV14
            have hLV14 := hSV14.a.bel
            have HV14 := Lib.hid hSV14
            clear hSV14 HV13
            refine HKK.out _ _ ⟨⟨_, hLV14⟩, rfl⟩ ?_
            clear HKK inv
            intro hS inv
            (try simp only [Act.put]); (try simp only [List.setIfInBounds_toArray]); (try simp only [List.set_cons_succ]); (try simp only [List.set_cons_zero])
            clear hLV14
            generalize V13.alloc (.cells #[.slice none 0 0, .bool false, .int .i64 0, .slice none 0 0] 37) = V14 at *
            generalize V13.heap.size = b8 at *
            refine wp_castT (l' := #[true, true, true, true, true, true, true, true, true, true, true, true, true, true, false, false]) (by kernel_rfl) ?_
            exact LEAF.out _ _ _ _ _ _ _ HV14.out (inv_castT (l' := #[true, true, true, true, true, true, true, true, true, true, true, true, true, true, false, false]) (by kernel_rfl) inv)
          · have HKK := Lib.hid hK
            clear hK
            go_simp
            have hSV15 := HV12.out.al8 37
            unfold zer at hSV15
            dsimp only [List.toArray] at hSV15
            have hLV15 := hSV15.a.bel
            have HV15 := Lib.hid hSV15
            clear hSV15 HV12
            refine HKK.out _ _ ⟨⟨_, hLV15⟩, rfl⟩ ?_
            clear HKK inv
            intro hS inv
            (try simp only [Act.put]); (try simp only [List.setIfInBounds_toArray]); (try simp only [List.set_cons_succ]); (try simp only [List.set_cons_zero])
            clear hLV15
            generalize V12.alloc (.cells #[.slice none 0 0, .bool false, .int .i64 0, .slice none 0 0] 37) = V15 at *
            generalize V12.heap.size = b8 at *
            refine sink_one (i := 11) (by kernel_rfl) rfl (by omega) inv (fun K hK => ?_)
            have HKK := Lib.hid hK
            clear hK
            go_simp
            with_reducible refine (HHA.out _ _ _ _ HV15.out.b).mono ?_
            rintro e V16 hA
            obtain ⟨hxV16, txV16, rfl, hSV16⟩ := HV15.out.callB hA HTH.out
            have HV16 := Lib.hid hSV16
            clear hA hSV16 HV15
            refine HKK.out _ _ ⟨⟨_, HV16.out.a.bel⟩, rfl⟩ ?_
            clear HKK inv
            intro hS inv
            (try simp only [Act.put]); (try simp only [List.setIfInBounds_toArray]); (try simp only [List.set_cons_succ]); (try simp only [List.set_cons_zero])
            refine wp_castT (l' := #[true, true, true, true, true, true, true, true, true, true, true, true, true, true, false, false]) (by kernel_rfl) ?_
            exact LEAF.out _ _ _ _ _ _ _ HV16.out (inv_castT (l' := #[true, true, true, true, true, true, true, true, true, true, true, true, true, true, false, false]) (by kernel_rfl) inv)
      · have HKK := Lib.hid hK
        clear hK
        go_simp
        have hSV17 := HW0.out.al8 37
        unfold zer at hSV17
        dsimp only [List.toArray] at hSV17
        have hLV17 := hSV17.a.bel
        have HV17 := Lib.hid hSV17
        clear hSV17 HW0
        refine HKK.out _ _ ⟨⟨_, hLV17⟩, rfl⟩ ?_
        clear HKK inv
        intro hS inv
        (try simp only [Act.put]); (try simp only [List.setIfInBounds_toArray]); (try simp only [List.set_cons_succ]); (try simp only [List.set_cons_zero])
        clear hLV17
        generalize W0.alloc (.cells #[.slice none 0 0, .bool false, .int .i64 0, .slice none 0 0] 37) = V17 at *
        generalize W0.heap.size = b8 at *
        refine sink_two (i := 5) (j := 13) (by kernel_rfl) rfl rfl (by omega) (by omega) inv (fun K hK => ?_) (fun K hK => ?_)
        · have HKK := Lib.hid hK
          clear hK
          go_simp
          with_reducible refine (HHA.out _ _ _ _ HV17.out.a).mono ?_
          rintro e V18 hA
          obtain ⟨hxV18, txV18, rfl, hSV18⟩ := HV17.out.callA hA HTH.out
          have HV18 := Lib.hid hSV18
          clear hA hSV18 HV17
          refine HKK.out _ _ ⟨⟨_, HV18.out.a.bel⟩, rfl⟩ ?_
          clear HKK inv
          intro hS inv
          (try simp only [Act.put]); (try simp only [List.setIfInBounds_toArray]); (try simp only [List.set_cons_succ]); (try simp only [List.set_cons_zero])
          refine sink_two (i := 11) (j := 13) (by kernel_rfl) rfl rfl (by omega) (by omega) inv (fun K hK => ?_) (fun K hK => ?_)
          · have HKK := Lib.hid hK
            clear hK
            go_simp
            with_reducible refine (HHA.out _ _ _ _ HV18.out.b).mono ?_
            rintro e V19 hA
            obtain ⟨hxV19, txV19, rfl, hSV19⟩ := HV18.out.callB hA HTH.out
            have HV19 := Lib.hid hSV19
            clear hA hSV19 HV18
            refine HKK.out _ _ ⟨⟨_, HV19.out.a.bel⟩, rfl⟩ ?_
            clear HKK inv
            intro hS inv
            (try simp only [Act.put]); (try simp only [List.setIfInBounds_toArray]); (try simp only [List.set_cons_succ]); (try simp only [List.set_cons_zero])
            refine sink_one (i := 13) (by kernel_rfl) rfl (by omega) inv (fun K hK => ?_)
            have HKK := Lib.hid hK
            clear hK
            go_simp
            have hSV20 := HV19.out.al9 37
            unfold zer at hSV20
            dsimp only [List.toArray] at hSV20
            have hLV20 := hSV20.a.bel
            have HV20 := Lib.hid hSV20
            clear hSV20 HV19
            refine HKK.out _ _ ⟨⟨_, hLV20⟩, rfl⟩ ?_
            clear HKK inv
            intro hS inv
            (try simp only [Act.put]); (try simp only [List.setIfInBounds_toArray]); (try simp only [List.set_cons_succ]); (try simp only [List.set_cons_zero])
            clear hLV20
            generalize V19.alloc (.cells #[.slice none 0 0, .bool false, .int .i64 0, .slice none 0 0] 37) = V20 at *
            generalize V19.heap.size = b9 at *
            refine wp_castT (l' := #[true, true, true, true, true, true, true, true, true, true, true, true, true, true, false, false]) (by kernel_rfl) ?_
            exact LEAF.out _ _ _ _ _ _ _ HV20.out (inv_castT (l' := #[true, true, true, true, true, true, true, true, true, true, true, true, true, true, false, false]) (by kernel_rfl) inv)
          · have HKK := Lib.hid hK
            clear hK
            go_simp
            have hSV21 := HV18.out.al9 37
            unfold zer at hSV21
            dsimp only [List.toArray] at hSV21
            have hLV21 := hSV21.a.bel
            have HV21 := Lib.hid hSV21
            clear hSV21 HV18
            refine HKK.out _ _ ⟨⟨_, hLV21⟩, rfl⟩ ?_
            clear HKK inv
            intro hS inv
            (try simp only [Act.put]); (try simp only [List.setIfInBounds_toArray]); (try simp only [List.set_cons_succ]); (try simp only [List.set_cons_zero])
            clear hLV21
            generalize V18.alloc (.cells #[.slice none 0 0, .bool false, .int .i64 0, .slice none 0 0] 37) = V21 at *
            generalize V18.heap.size = b9 at *
            refine sink_one (i := 11) (by kernel_rfl) rfl (by omega) inv (fun K hK => ?_)
            have HKK := Lib.hid hK
            clear hK
            go_simp
            with_reducible refine (HHA.out _ _ _ _ HV21.out.b).mono ?_
            rintro e V22 hA
            obtain ⟨hxV22, txV22, rfl, hSV22⟩ := HV21.out.callB hA HTH.out
            have HV22 := Lib.hid hSV22
            clear hA hSV22 HV21
            refine HKK.out _ _ ⟨⟨_, HV22.out.a.bel⟩, rfl⟩ ?_
            clear HKK inv
            intro hS inv
            (try simp only [Act.put]); (try simp only [List.setIfInBounds_toArray]); (try simp only [List.set_cons_succ]); (try simp only [List.set_cons_zero])
            refine wp_castT (l' := #[true, true, true, true, true, true, true, true, true, true, true, true, true, true, false, false]) (by kernel_rfl) ?_
            exact LEAF.out _ _ _ _ _ _ _ HV22.out (inv_castT (l' := #[true, true, true, true, true, true, true, true, true, true, true, true, true, true, false, false]) (by kernel_rfl) inv)
        · have HKK := Lib.hid hK
          clear hK
          go_simp
          have hSV23 := HV17.out.al9 37
          unfold zer at hSV23
          dsimp only [List.toArray] at hSV23
          have hLV23 := hSV23.a.bel
          have HV23 := Lib.hid hSV23
          clear hSV23 HV17
          refine HKK.out _ _ ⟨⟨_, hLV23⟩, rfl⟩ ?_
          clear HKK inv
          intro hS inv
          (try simp only [Act.put]); (try simp only [List.setIfInBounds_toArray]); (try simp only [List.set_cons_succ]); (try simp only [List.set_cons_zero])
          clear hLV23
          generalize V17.alloc (.cells #[.slice none 0 0, .bool false, .int .i64 0, .slice none 0 0] 37) = V23 at *
          generalize V17.heap.size = b9 at *
          refine sink_one (i := 5) (by kernel_rfl) rfl (by omega) inv (fun K hK => ?_)
          have HKK := Lib.hid hK
          clear hK
          go_simp
          with_reducible refine (HHA.out _ _ _ _ HV23.out.a).mono ?_
          rintro e V24 hA
          obtain ⟨hxV24, txV24, rfl, hSV24⟩ := HV23.out.callA hA HTH.out
          have HV24 := Lib.hid hSV24
          clear hA hSV24 HV23
          refine HKK.out _ _ ⟨⟨_, HV24.out.a.bel⟩, rfl⟩ ?_
          clear HKK inv
          intro hS inv
          (try simp only [Act.put]); (try simp only [List.setIfInBounds_toArray]); (try simp only [List.set_cons_succ]); (try simp only [List.set_cons_zero])
          refine sink_one (i := 11) (by kernel_rfl) rfl (by omega) inv (fun K hK => ?_)
          have HKK := Lib.hid hK
          clear hK
          go_simp
          with_reducible refine (HHA.out _ _ _ _ HV24.out.b).mono ?_
          rintro e V25 hA
          obtain ⟨hxV25, txV25, rfl, hSV25⟩ := HV24.out.callB hA HTH.out
          have HV25 := Lib.hid hSV25
          clear hA hSV25 HV24
          refine HKK.out _ _ ⟨⟨_, HV25.out.a.bel⟩, rfl⟩ ?_
          clear HKK inv
          intro hS inv
          (try simp only [Act.put]); (try simp only [List.setIfInBounds_toArray]); (try simp only [List.set_cons_succ]); (try simp only [List.set_cons_zero])
          refine wp_castT (l' := #[true, true, true, true, true, true, true, true, true, true, true, true, true, true, false, false]) (by kernel_rfl) ?_
          exact LEAF.out _ _ _ _ _ _ _ HV25.out (inv_castT (l' := #[true, true, true, true, true, true, true, true, true, true, true, true, true, true, false, false]) (by kernel_rfl) inv)
      · have HKK := Lib.hid hK
        clear hK
        go_simp
        have hSV26 := HW0.out.al9 37
        unfold zer at hSV26
        dsimp only [List.toArray] at hSV26
        have hLV26 := hSV26.a.bel
        have HV26 := Lib.hid hSV26
        clear hSV26 HW0
        refine HKK.out _ _ ⟨⟨_, hLV26⟩, rfl⟩ ?_
        clear HKK inv
        intro hS inv
        (try simp only [Act.put]); (try simp only [List.setIfInBounds_toArray]); (try simp only [List.set_cons_succ]); (try simp only [List.set_cons_zero])
        clear hLV26
        generalize W0.alloc (.cells #[.slice none 0 0, .bool false, .int .i64 0, .slice none 0 0] 37) = V26 at *
        generalize W0.heap.size = b9 at *
        refine sink_two (i := 5) (j := 12) (by kernel_rfl) rfl rfl (by omega) (by omega) inv (fun K hK => ?_) (fun K hK => ?_)
        · have HKK := Lib.hid hK
          clear hK
          go_simp
          with_reducible refine (HHA.out _ _ _ _ HV26.out.a).mono ?_
          rintro e V27 hA
          obtain ⟨hxV27, txV27, rfl, hSV27⟩ := HV26.out.callA hA HTH.out
          have HV27 := Lib.hid hSV27
          clear hA hSV27 HV26
          refine HKK.out _ _ ⟨⟨_, HV27.out.a.bel⟩, rfl⟩ ?_
          clear HKK inv
          intro hS inv
          (try simp only [Act.put]); (try simp only [List.setIfInBounds_toArray]); (try simp only [List.set_cons_succ]); (try simp only [List.set_cons_zero])
          refine sink_two (i := 11) (j := 12) (by kernel_rfl) rfl rfl (by omega) (by omega) inv (fun K hK => ?_) (fun K hK => ?_)
          · have HKK := Lib.hid hK
            clear hK
            go_simp
            with_reducible refine (HHA.out _ _ _ _ HV27.out.b).mono ?_
            rintro e V28 hA
            obtain ⟨hxV28, txV28, rfl, hSV28⟩ := HV27.out.callB hA HTH.out
            have HV28 := Lib.hid hSV28
            clear hA hSV28 HV27
            refine HKK.out _ _ ⟨⟨_, HV28.out.a.bel⟩, rfl⟩ ?_
            clear HKK inv
            intro hS inv
            (try simp only [Act.put]); (try simp only [List.setIfInBounds_toArray]); (try simp only [List.set_cons_succ]); (try simp only [List.set_cons_zero])
            refine sink_one (i := 12) (by kernel_rfl) rfl (by omega) inv (fun K hK => ?_)
            have HKK := Lib.hid hK
            clear hK
            go_simp
            have hSV29 := HV28.out.al8 37
            unfold zer at hSV29
            dsimp only [List.toArray] at hSV29
            have hLV29 := hSV29.a.bel
            have HV29 := Lib.hid hSV29
            clear hSV29 HV28
            refine HKK.out _ _ ⟨⟨_, hLV29⟩, rfl⟩ ?_
            clear HKK inv
            intro hS inv
            (try simp only [Act.put]); (try simp only [List.setIfInBounds_toArray]); (try simp only [List.set_cons_succ]); (try simp only [List.set_cons_zero])
            clear hLV29
            generalize V28.alloc (.cells #[.slice none 0 0, .bool false, .int .i64 0, .slice none 0 0] 37) = V29 at *
            generalize V28.heap.size = b8 at *
            refine wp_castT (l' := #[true, true, true, true, true, true, true, true, true, true, true, true, true, true, false, false]) (by kernel_rfl) ?_
            exact LEAF.out _ _ _ _ _ _ _ HV29.out (inv_castT (l' := #[true, true, true, true, true, true, true, true, true, true, true, true, true, true, false, false]) (by kernel_rfl) inv)
          · have HKK := Lib.hid hK
            clear hK
            go_simp
            have hSV30 := HV27.out.al8 37
            unfold zer at hSV30
            dsimp only [List.toArray] at hSV30
            have hLV30 := hSV30.a.bel
            have HV30 := Lib.hid hSV30
            clear hSV30 HV27
            refine HKK.out _ _ ⟨⟨_, hLV30⟩, rfl⟩ ?_
            clear HKK inv
            intro hS inv
            (try simp only [Act.put]); (try simp only [List.setIfInBounds_toArray]); (try simp only [List.set_cons_succ]); (try simp only [List.set_cons_zero])
            clear hLV30
            generalize V27.alloc (.cells #[.slice none 0 0, .bool false, .int .i64 0, .slice none 0 0] 37) = V30 at *
            generalize V27.heap.size = b8 at *
            refine sink_one (i := 11) (by kernel_rfl) rfl (by omega) inv (fun K hK => ?_)
            have HKK := Lib.hid hK
            clear hK
            go_simp
            with_reducible refine (HHA.out _ _ _ _ HV30.out.b).mono ?_
            rintro e V31 hA
            obtain ⟨hxV31, txV31, rfl, hSV31⟩ := HV30.out.callB hA HTH.out
            have HV31 := Lib.hid hSV31
            clear hA hSV31 HV30
            refine HKK.out _ _ ⟨⟨_, HV31.out.a.bel⟩, rfl⟩ ?_
            clear HKK inv
            intro hS inv
            (try simp only [Act.put]); (try simp only [List.setIfInBounds_toArray]); (try simp only [List.set_cons_succ]); (try simp only [List.set_cons_zero])
            refine wp_castT (l' := #[true, true, true, true, true, true, true, true, true, true, true, true, true, true, false, false]) (by kernel_rfl) ?_
            exact LEAF.out _ _ _ _ _ _ _ HV31.out (inv_castT (l' := #[true, true, true, true, true, true, true, true, true, true, true, true, true, true, false, false]) (by kernel_rfl) inv)
        · have HKK := Lib.hid hK
          clear hK
          go_simp
          have hSV32 := HV26.out.al8 37
          unfold zer at hSV32
          dsimp only [List.toArray] at hSV32
          have hLV32 := hSV32.a.bel
          have HV32 := Lib.hid hSV32
          clear hSV32 HV26
          refine HKK.out _ _ ⟨⟨_, hLV32⟩, rfl⟩ ?_
          clear HKK inv
          intro hS inv
          (try simp only [Act.put]); (try simp only [List.setIfInBounds_toArray]); (try simp only [List.set_cons_succ]); (try simp only [List.set_cons_zero])
          clear hLV32
          generalize V26.alloc (.cells #[.slice none 0 0, .bool false, .int .i64 0, .slice none 0 0] 37) = V32 at *
          generalize V26.heap.size = b8 at *
          refine sink_one (i := 5) (by kernel_rfl) rfl (by omega) inv (fun K hK => ?_)
          have HKK := Lib.hid hK
          clear hK
          go_simp
          with_reducible refine (HHA.out _ _ _ _ HV32.out.a).mono ?_
          rintro e V33 hA
          obtain ⟨hxV33, txV33, rfl, hSV33⟩ := HV32.out.callA hA HTH.out
          have HV33 := Lib.hid hSV33
          clear hA hSV33 HV32
          refine HKK.out _ _ ⟨⟨_, HV33.out.a.bel⟩, rfl⟩ ?_
          clear HKK inv
          intro hS inv
          (try simp only [Act.put]); (try simp only [List.setIfInBounds_toArray]); (try simp only [List.set_cons_succ]); (try simp only [List.set_cons_zero])
          refine sink_one (i := 11) (by kernel_rfl) rfl (by omega) inv (fun K hK => ?_)
          have HKK := Lib.hid hK
          clear hK
          go_simp
          with_reducible refine (HHA.out _ _ _ _ HV33.out.b).mono ?_
          rintro e V34 hA
          obtain ⟨hxV34, txV34, rfl, hSV34⟩ := HV33.out.callB hA HTH.out
          have HV34 := Lib.hid hSV34
          clear hA hSV34 HV33
          refine HKK.out _ _ ⟨⟨_, HV34.out.a.bel⟩, rfl⟩ ?_
          clear HKK inv
          intro hS inv
          (try simp only [Act.put]); (try simp only [List.setIfInBounds_toArray]); (try simp only [List.set_cons_succ]); (try simp only [List.set_cons_zero])
          refine wp_castT (l' := #[true, true, true, true, true, true, true, true, true, true, true, true, true, true, false, false]) (by kernel_rfl) ?_
          exact LEAF.out _ _ _ _ _ _ _ HV34.out (inv_castT (l' := #[true, true, true, true, true, true, true, true, true, true, true, true, true, true, false, false]) (by kernel_rfl) inv)
  case rest =>
  obtain ⟨b8, b9, ha', hb', t, u, rfl, rfl, HF⟩ := hcut
  have HMG : Hid (∀ W lo hi (t : TV), Td z.told lo hi t W → MsgsAt t.pq t.mh W) := Lib.hid (fun W lo hi t h => h.msgs HSY.out HTH.out.bd.da)
  go_step
  refine tw13 (c := _) (by kernel_rfl) HF HMG ?_
  intro _ _ _ _ _ _ _ _ _ _ _ _ _ _ _ _ _ _ _ _ _ _ _ _ _ _ _ _ _ _ _ _ _ _ _ _ _ _ _ _ _ _ _ _ _ _ _ _ _ _ _ _ _ _ _ _ _ _ _ _ _ _ _ _ _ _ _ _ _ _ wx HBX
  have HD9 := Lib.hid (HF.out.below HBX.out)
  go_wp2
  exact HQ.out _ _ _ _ _ _ _ _ _ _ _ _ _ _ _ _ _ _ _ _ _ _ _ _ _ _ _ _ _ _ _ _ _ _ _ _ _ _ _ _ _ _ _ _ _ _ _ _ _ _ _ _ _ _ _ _ _ _ _ _ _ _ _ _ _ _ _ _ _ _ _ _ _ _ _ _ _ _ _ _ _ _ _ _ _ _ _ _ (Lib.hid ⟨HD9.out.a, HD9.out.b, HD9.out.ap⟩)
end RF
end Go.Proofs.YtaodldagmmephaaGreat

/- arboretumlaw20.RaftTwins: its walk. -/
namespace Go.Proofs.YtaodldagmmephaaGreat
open Go.RowKit Go.Maps
namespace RF
set_option maxHeartbeats 2000000 in
set_option maxRecDepth 100000 in
theorem twins_walk (p : Option Addr) (c : Nat) (L : List OpL) (w : World) (hL : RdG opcells w w.heap.size p L.length L) (hO : ∀ z ∈ L, OpOk2 z w) (hn : L.length ≤ 9223372036854775807) :
    Calls Tryz.prog 11 #[.slice p L.length c] w fun e w' => e = .returned (.bool true) ∧ Below w.heap.size w w' := by
  have HAL := Lib.hid (fun W => alive_true W)
  have HLI := Lib.hid (light_ops p c L w ⟨hL, fun i hi => (hO _ (el_in hi)).1.msg.at'⟩ hn (fun i hi => (hO _ (el_in hi)).1.sizes))
  have HO : Hid (∀ i, i < L.length → OpOk2 (HL.el L i) w) := Lib.hid (fun i hi => hO _ (el_in hi))
  have HLL := Lib.hid hL
  clear hL hO hn
  go_enter Tryz.func11, Tryz.ntmps11
  go_wp2_with fail
  with_reducible refine (HLI.out).mono ?_
  rintro e W1 ⟨⟨β, rfl, hβ⟩, hb1⟩
  have HB1 := Lib.hid hb1
  have HBE := Lib.hid hβ
  clear hb1 hβ HLI
  cases β with
  | false =>
    have HAC := Lib.hid (HAL.out W1)
    go_wp2_with fail
    with_reducible refine (HAC.out).mono ?_
    rintro e w3 ⟨rfl, hb3⟩
    have HB3 := Lib.hid (HB1.out.trans (hb3.mono HB1.out.size))
    go_wp2
    go_ret
    exact ⟨rfl, HB3.out⟩
  | true =>
  have HSM := Lib.hid (HBE.out rfl)
  clear HBE
  have HT0 := Lib.hid th_new.2
  have HBA : Hid (Below W1.heap.size W1 (W1.alloc (.cells #[.int .i64 1, .int .i64 2, .int .i64 3] 3))) := Lib.hid ((Below.refl _ W1).alloc (Nat.le_refl _) _)
  have HIF : Hid (RdI (W1.alloc (.cells #[.int .i64 1, .int .i64 2, .int .i64 3] 3)) (W1.alloc (.cells #[.int .i64 1, .int .i64 2, .int .i64 3] 3)).heap.size (some ⟨W1.heap.size, 0, none⟩) 3 [1, 2, 3]) := Lib.hid (rd_new W1 [1, 2, 3] _)
  have HNW := Lib.hid (rf_new 1 0 0 0 0 0 [1, 2, 3] (some ⟨W1.heap.size, 0, none⟩) 3 [] none 0 0 (by omega) (by omega) HIF.out ⟨rfl, fun h => absurd h (by omega)⟩ (.inr ⟨rfl, rfl⟩) (by omega) (fun i hi => absurd hi (by omega)) th_new.1)
  simp only [List.length_cons, List.length_nil, Nat.zero_add, Nat.reduceAdd] at HNW
  go_wp2_with fail
  with_reducible refine (HNW.out).mono ?_
  rintro e W2 ⟨ra, ha, Ba, rfl, hcl, hB0, hr, hb2⟩
  have HTA : Hid (Ts w ra Ba (new0 1 0 0 0 0 0 [1, 2, 3] []) ha 0 W2) := Lib.hid ⟨hcl, hr, HT0.out, Nat.le_trans (Nat.le_trans HB1.out.size HBA.out.size) hB0, HB1.out.trans ((HBA.out.trans (hb2.mono HBA.out.size)).mono HB1.out.size)⟩
  clear hcl hB0 hr hb2 HNW HBA HIF
  have HBA : Hid (Below W2.heap.size W2 (W2.alloc (.cells #[.int .i64 1, .int .i64 2, .int .i64 3] 3))) := Lib.hid ((Below.refl _ W2).alloc (Nat.le_refl _) _)
  have HIF : Hid (RdI (W2.alloc (.cells #[.int .i64 1, .int .i64 2, .int .i64 3] 3)) (W2.alloc (.cells #[.int .i64 1, .int .i64 2, .int .i64 3] 3)).heap.size (some ⟨W2.heap.size, 0, none⟩) 3 [1, 2, 3]) := Lib.hid (rd_new W2 [1, 2, 3] _)
  have HNW := Lib.hid (rf_new 1 0 0 0 0 0 [1, 2, 3] (some ⟨W2.heap.size, 0, none⟩) 3 [] none 0 0 (by omega) (by omega) HIF.out ⟨rfl, fun h => absurd h (by omega)⟩ (.inr ⟨rfl, rfl⟩) (by omega) (fun i hi => absurd hi (by omega)) th_new.1)
  simp only [List.length_cons, List.length_nil, Nat.zero_add, Nat.reduceAdd] at HNW
  go_wp2_with fail
  with_reducible refine (HNW.out).mono ?_
  rintro e W3 ⟨rb, hb, Bb, rfl, hcl, hB0, hr, hb2⟩
  have HP : Hid (Ts w ra Ba (new0 1 0 0 0 0 0 [1, 2, 3] []) ha 0 W3 ∧ Ts w rb Bb (new0 1 0 0 0 0 0 [1, 2, 3] []) hb 0 W3 ∧ ∀ x, Fo ra ha x → ¬ Fo rb hb x) := Lib.hid (by
    have h3 := HBA.out.trans (hb2.mono HBA.out.size)
    have hta := HTA.out.below h3
    have hle : W2.heap.size ≤ Bb := Nat.le_trans HBA.out.size hB0
    refine ⟨hta, ⟨hcl, hr, HT0.out, Nat.le_trans HTA.out.bel.size hle, hta.bel⟩, fun x hx hy => ?_⟩
    have q1 := (HTA.out.rf.lt hx).2
    have q2 := (hr.lt hy).1
    omega)
  clear hcl hB0 hr hb2 HNW HT0 HBA HB1 HTA HIF
  generalize new0 1 0 0 0 0 0 [1, 2, 3] [] = s0 at *
  go_wp2
  go_loopw [7] (fun iv wr => ∃ (i : Nat) (s : RS) (ha hb : Hd), i ≤ L.length ∧ iv = .int .i64 (i : Int) ∧ Hid (Ts w ra Ba s ha i wr ∧ Ts w rb Bb s hb i wr ∧ ∀ x, Fo ra ha x → ¬ Fo rb hb x)) (fun iv _ => L.length - (intOf iv).toNat)
  case atStart => exact ⟨0, s0, ha, hb, Nat.zero_le _, rfl, HP⟩
  case round =>
    obtain ⟨i, s, ha, hb, hi, rfl, HT⟩ := hrel
    by_cases hlt : i < L.length
    case neg =>
      have hltI : ¬ ((i : Int) < (L.length : Int)) := by omega
      have HAC := Lib.hid (HAL.out wr)
      have HBW := Lib.hid HT.out.1.bel
      go_wp2_with fail
      with_reducible refine (HAC.out).mono ?_
      rintro e W4 ⟨rfl, hb4⟩
      have HBF := Lib.hid (HBW.out.trans (hb4.mono HBW.out.size))
      clear hb4
      go_wp2
      go_ret
      exact ⟨rfl, HBF.out⟩
    case pos =>
    have hltI : (i : Int) < (L.length : Int) := by omega
    have HIL : Hid (i < 200) := Lib.hid (by have := HSM.out.1; omega)
    obtain ⟨pb, po, hpe, hpb, hpc⟩ := HLL.out.2 (by omega)
    subst hpe
    have HOK := Lib.hid (HO.out i hlt)
    have HSI := Lib.hid (HSM.out.2 i hlt)
    have HCZ : Hid (∀ j u, (opcells (HL.el L i))[j]? = some u → ∀ W, Below w.heap.size w W → W.cell? ⟨pb, po + i * 22 + j, none⟩ = some u) := Lib.hid (fun j u hu W hW => by
      have hj : j < 22 := by
        have := (List.getElem?_eq_some_iff.1 hu).1
        rw [opcells_len] at this
        exact this
      exact (hW.cell (p := ⟨pb, po + i * 22 + j, none⟩) hpb).trans (row_cell2 (size := 22) opcells_len rfl hpc i j hlt u hu hj))
    clear hpc hpb
    generalize HL.el L i = o at *
    have z7 : wr.cell? ⟨pb, po + i * 22 + 3 + 4, none⟩ = some (.int .i64 o.m.ix) := HCZ.out 7 _ rfl _ HT.out.1.bel
    have z19 : wr.cell? ⟨pb, po + i * 22 + 19, none⟩ = some (.int .i64 o.six) := HCZ.out 19 _ rfl _ HT.out.1.bel
    go_upto_region 10 with fail
    go_cut [65] (fun s65 wx => ∃ β : Bool, s65 = .bool β ∧ wx = wr ∧ Hid (β = false → o.m.ix ≤ 1099511627776 ∧ o.six ≤ 1099511627776))
    case first =>
      by_cases h1 : 1099511627776 < o.m.ix
      · have d1 : decide (1099511627776 < o.m.ix) = true := decide_eq_true h1
        clear h1
        go_wp2
        go_meet
        case rel => exact ⟨_, rfl, rfl, Lib.hid (fun h => by cases h)⟩
      · have d1 : decide (1099511627776 < o.m.ix) = false := decide_eq_false h1
        by_cases h2 : 1099511627776 < o.six
        · have d2 : decide (1099511627776 < o.six) = true := decide_eq_true h2
          clear h1 h2
          go_wp2
          go_meet
          case rel => exact ⟨_, rfl, rfl, Lib.hid (fun h => by cases h)⟩
        · have d2 : decide (1099511627776 < o.six) = false := decide_eq_false h2
          have HN : Hid (o.m.ix ≤ 1099511627776 ∧ o.six ≤ 1099511627776) := Lib.hid ⟨by omega, by omega⟩
          clear h1 h2
          go_wp2
          go_meet
          case rel => exact ⟨_, rfl, rfl, Lib.hid (fun _ => HN.out)⟩
    case rest =>
    obtain ⟨β, rfl, hwx, HBB⟩ := hcut
    have hwx := hwx.symm
    subst hwx
    clear z7 z19
    cases β with
    | true =>
      have HBF := Lib.hid HT.out.1.bel
      go_wp2
      go_ret
      exact ⟨rfl, HBF.out⟩
    | false =>
    go_step; go_step; go_step; go_step; go_step
    refine tw12 (c := _) (by kernel_rfl) HT HIL hlt HOK HSI HCZ (Lib.hid (HBB.out (by simp))) ?_
    intro _ _ _ _ _ _ _ _ _ _ _ _ _ _ _ _ _ _ _ _ _ _ _ _ _ _ _ _ _ _ _ _ _ _ _ _ _ _ _ _ _ _ _ _ _ _ _ _ _ _ _ _ _ _ _ _ _ _ _ _ _ _ _ _ _ _ _ _ _ _ _ _ _ _ _ _ _ _ _ _ _ _ _ _ z3 ha3 hb3 wx HTF
    have hwi : IntKind.i64.wrap ((i : Int) + 1) = (i : Int) + 1 := IntWalk.i64_in _ (by have := HIL.out; omega)
    go_wp2
    go_roundw
    case rel => exact ⟨i + 1, z3, ha3, hb3, by omega, by go_num, HTF⟩
    case measure => simp [intOf]; omega
end RF
end Go.Proofs.YtaodldagmmephaaGreat

