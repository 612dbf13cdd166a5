/- arboretumlaw20.RaftNone returns true, whatever its argument. -/
import Derived.Test.YtaodldagmmephaaGreatB5
import Derived.Test.YtaodldagmmephaaGreatB7
namespace Go.Proofs.YtaodldagmmephaaGreat
open Go.RowKit Go.Maps
section
variable {P : Program} {md : Region.Mode} {ops : Array Oper} {Q : Exit → Act → World → Prop} {S : World → Prop}
/-- Three operations may come up. -/
theorem sink_three {n i j k : Nat} {o o2 o3 : Oper} {fuel : Nat} {listed : Array Bool} {a : Act} {w : World} (hr : Region.ready md ops listed = [i, j, k]) (hi : ops[i]? = some o) (hj : ops[j]? = some o2) (hk3 : ops[k]? = some o3) (hin : i < n) (hjn : j < n) (hkn : k < n) (inv : HeadInv md ops n listed)
    (h : ∀ K : Act → World → Prop, (∀ a' w', S w' → (S w' → HeadInv md ops n (listed.setIfInBounds i true) → WpSink P md ops Q S n fuel (listed.setIfInBounds i true) a' w') → K a' w') →
      if Region.wanted o (yielded ops a.tmps) = true then Oper.wp P o a w K Q else K (a.put o.dst undef) w)
    (h2 : ∀ K : Act → World → Prop, (∀ a' w', S w' → (S w' → HeadInv md ops n (listed.setIfInBounds j true) → WpSink P md ops Q S n fuel (listed.setIfInBounds j true) a' w') → K a' w') →
      if Region.wanted o2 (yielded ops a.tmps) = true then Oper.wp P o2 a w K Q else K (a.put o2.dst undef) w)
    (h3 : ∀ K : Act → World → Prop, (∀ a' w', S w' → (S w' → HeadInv md ops n (listed.setIfInBounds k true) → WpSink P md ops Q S n fuel (listed.setIfInBounds k true) a' w') → K a' w') →
      if Region.wanted o3 (yielded ops a.tmps) = true then Oper.wp P o3 a w K Q else K (a.put o3.dst undef) w) : WpSink P md ops Q S n (fuel + 1) listed a w := by
  refine ⟨fun h0 => (by rw [h0] at hr; cases hr), fun m hm => ?_⟩
  rw [hr] at hm
  rcases List.mem_cons.1 hm with rfl | hm
  · have h9 := h (fun a' w' => (m ≠ n → S w') ∧ WpSink P md ops Q S n fuel (listed.setIfInBounds m true) a' w') (fun a' w' hS hK => ⟨fun _ => hS, hK hS (inv.set (by rw [hr]; exact List.mem_cons_self) hin)⟩)
    unfold wpOp
    simp only [hi]
    split
    · rename_i hw
      rw [if_pos hw] at h9
      exact .inl h9
    · rename_i hw
      rw [if_neg hw] at h9
      exact h9
  · rcases List.mem_cons.1 hm with rfl | hm
    · have h9 := h2 (fun a' w' => (m ≠ n → S w') ∧ WpSink P md ops Q S n fuel (listed.setIfInBounds m true) a' w') (fun a' w' hS hK => ⟨fun _ => hS, hK hS (inv.set (by rw [hr]; exact List.mem_cons_of_mem _ List.mem_cons_self) hjn)⟩)
      unfold wpOp
      simp only [hj]
      split
      · rename_i hw
        rw [if_pos hw] at h9
        exact .inl h9
      · rename_i hw
        rw [if_neg hw] at h9
        exact h9
    · obtain rfl : m = k := by simpa using hm
      have h9 := h3 (fun a' w' => (m ≠ n → S w') ∧ WpSink P md ops Q S n fuel (listed.setIfInBounds m true) a' w') (fun a' w' hS hK => ⟨fun _ => hS, hK hS (inv.set (by rw [hr]; exact List.mem_cons_of_mem _ (List.mem_cons_of_mem _ hm)) hkn)⟩)
      unfold wpOp
      simp only [hk3]
      split
      · rename_i hw
        rw [if_pos hw] at h9
        exact .inl h9
      · rename_i hw
        rw [if_neg hw] at h9
        exact h9
end
section
variable {P : Program} {md : Region.Mode} {ops : Array Oper} {Q : Exit → Act → World → Prop} {S : World → Prop}
theorem wp_cast {n f : Nat} {l l' : Array Bool} {a : Act} {w : World} (e : l = l') (h : WpSink P md ops Q S n f l' a w) : WpSink P md ops Q S n f l a w := by subst e; exact h
theorem inv_cast {n : Nat} {l l' : Array Bool} (e : l = l') (h : HeadInv md ops n l) : HeadInv md ops n l' := by subst e; exact h
/-- What stands behind whatever order is shown once. -/
theorem leaf_then {n f : Nat} {l : Array Bool} {a : Act} {w : World} (l' : Array Bool) (f' : Nat) (v3 v7 : Value) (facts : World → Nat → Nat → Prop)
    (hleaf : ∀ (W : World) (b8 b9 : Nat), facts W b8 b9 → HeadInv md ops n l' → WpSink P md ops Q S n f' l' ((((a.put (some 80) v3).put (some 84) v7).put (some 23) (.pointer (some ⟨b8, 0, none⟩))).put (some 24) (.pointer (some ⟨b9, 0, none⟩))) W)
    (hgo : (∀ (W : World) (b8 b9 : Nat), facts W b8 b9 → HeadInv md ops n l' → WpSink P md ops Q S n f' l' ((((a.put (some 80) v3).put (some 84) v7).put (some 23) (.pointer (some ⟨b8, 0, none⟩))).put (some 24) (.pointer (some ⟨b9, 0, none⟩))) W) → WpSink P md ops Q S n f l a w) : WpSink P md ops Q S n f l a w := hgo hleaf
end
section
variable {P : Program} {ops : Array Oper} {rest : List Oper} {a : Act} {w : World} {Q : Exit → Act → World → Prop} {x : Operand} {d : Option Tmp} {t ty : TypeId} {pos : String} {af : Array Edge} {g : Option (Nat × Bool)}
theorem wpL {ad : Addr} {v : Value} (hit : a.eval x = .pointer (some ad)) (hrun : (loadVar t ad).run P w = .ok v w) (hw : Region.wanted ⟨d, .load t x, ty, pos, af, g⟩ (yielded ops a.tmps) = true) (h : wpList P ops Q rest (a.put d v) w) : wpList P ops Q (⟨d, .load t x, ty, pos, af, g⟩ :: rest) a w := by
  refine wpList_step fun K hK => ?_
  rw [if_pos hw]
  unfold Oper.wp
  have e3 : (execOp a.eval ⟨d, .load t x, ty, pos, af, g⟩).run P w = .ok (.value v) w := by
    simp [execOp, hit, hrun, Instr.loadAt, Instr.sureAddr, Result.andThen]
  rw [e3]
  simp only [Oper.upon]
  exact hK _ _ h
end
namespace RF
theorem load_op (o : OpL) (bo : Nat) (W1 : World) (X1 : CBox bo (opcells o) W1) : (loadVar 83 ⟨bo, 0, none⟩).run Tryz.prog W1 = .ok (.agg (opcells o).toArray) W1 := by
  have h1 := run_loadCells_list (P := Tryz.prog) W1 ⟨bo, 0, none⟩ (opcells o) (fun j v hv => by
    have e : (⟨bo, 0, none⟩ : Addr).add j = ⟨bo, j, none⟩ := (add_at bo 0 j).trans (by rw [Nat.zero_add])
    rw [e]
    exact X1.1 j v hv)
  rw [opcells_len] at h1
  have ha : (isAgg 83).run Tryz.prog W1 = .ok true W1 := by kernel_rfl
  have hs : (sizeOf 83).run Tryz.prog W1 = .ok 22 W1 := by kernel_rfl
  unfold loadVar
  simp only [Sem.run_bind, ha, hs, h1, Result.andThen_ok, if_true, Sem.run_pure]
def opval (o : OpL) : Value := .agg #[.int .i64 o.kd, .int .i64 o.a, .int .i64 o.b, .int .i64 o.m.kd, .int .i64 o.m.fr, .int .i64 o.m.tq, .int .i64 o.m.tm, .int .i64 o.m.ix, .int .i64 o.m.lt, .int .i64 o.m.cm, .int .i64 o.m.rd, .bool o.m.ok, .bool o.x.dn, .slice o.x.pe o.m.en.length o.x.ce, .slice o.x.pm o.x.nm o.x.cm, .int .i64 o.x.of, .slice o.x.pp o.x.np o.x.cp, .string o.st, .slice o.lp o.ln o.lc, .int .i64 o.six, .int .i64 o.stm, .slice o.sp o.sn o.sc]
theorem void_nil (W : World) : Void (.pointer none) W := Or.inl rfl
set_option maxHeartbeats 20000000 in
set_option maxRecDepth 100000 in
theorem none_walk (o : OpL) (w : World) (h : MsgAt o.m o.x w) (hs : o.st.size ≤ 9223372036854775807 ∧ o.ln ≤ 9223372036854775807 ∧ o.sn ≤ 9223372036854775807) :
    Calls Tryz.prog 12 #[opval o] w fun e w' => e = .returned (.bool true) ∧ Below w.heap.size w w' := by
  have HAL := Lib.hid (fun W => alive_true W)
  have hb1 : Below w.heap.size w (w.alloc (.cells #[.int .i64 o.kd, .int .i64 o.a, .int .i64 o.b, .int .i64 o.m.kd, .int .i64 o.m.fr, .int .i64 o.m.tq, .int .i64 o.m.tm, .int .i64 o.m.ix, .int .i64 o.m.lt, .int .i64 o.m.cm, .int .i64 o.m.rd, .bool o.m.ok, .bool o.x.dn, .slice o.x.pe o.m.en.length o.x.ce, .slice o.x.pm o.x.nm o.x.cm, .int .i64 o.x.of, .slice o.x.pp o.x.np o.x.cp, .string o.st, .slice o.lp o.ln o.lc, .int .i64 o.six, .int .i64 o.stm, .slice o.sp o.sn o.sc] 83)) := (Below.refl _ w).alloc (Nat.le_refl _) _
  have X1 := CBox.fresh w [.int .i64 o.kd, .int .i64 o.a, .int .i64 o.b, .int .i64 o.m.kd, .int .i64 o.m.fr, .int .i64 o.m.tq, .int .i64 o.m.tm, .int .i64 o.m.ix, .int .i64 o.m.lt, .int .i64 o.m.cm, .int .i64 o.m.rd, .bool o.m.ok, .bool o.x.dn, .slice o.x.pe o.m.en.length o.x.ce, .slice o.x.pm o.x.nm o.x.cm, .int .i64 o.x.of, .slice o.x.pp o.x.np o.x.cp, .string o.st, .slice o.lp o.ln o.lc, .int .i64 o.six, .int .i64 o.stm, .slice o.sp o.sn o.sc] 83
  have HM := Lib.hid (h.below hb1)
  have HB1 := Lib.hid hb1
  unfold opval
  clear h hb1
  go_enter Tryz.func12, Tryz.ntmps12
  go_upto_region 1 with fail
  dsimp only [List.toArray] at X1
  generalize w.alloc (.cells #[.int .i64 o.kd, .int .i64 o.a, .int .i64 o.b, .int .i64 o.m.kd, .int .i64 o.m.fr, .int .i64 o.m.tq, .int .i64 o.m.tm, .int .i64 o.m.ix, .int .i64 o.m.lt, .int .i64 o.m.cm, .int .i64 o.m.rd, .bool o.m.ok, .bool o.x.dn, .slice o.x.pe o.m.en.length o.x.ce, .slice o.x.pm o.x.nm o.x.cm, .int .i64 o.x.of, .slice o.x.pp o.x.np o.x.cp, .string o.st, .slice o.lp o.ln o.lc, .int .i64 o.six, .int .i64 o.stm, .slice o.sp o.sn o.sc] 83) = W1 at *
  generalize w.heap.size = bo at X1 ⊢
  have HX1 := Lib.hid X1
  have hbb : Below W1.heap.size W1 (W1.alloc (.cells #[.int .i64 o.kd, .int .i64 o.a, .int .i64 o.b, .int .i64 o.m.kd, .int .i64 o.m.fr, .int .i64 o.m.tq, .int .i64 o.m.tm, .int .i64 o.m.ix, .int .i64 o.m.lt, .int .i64 o.m.cm, .int .i64 o.m.rd, .bool o.m.ok, .bool o.x.dn, .slice o.x.pe o.m.en.length o.x.ce, .slice o.x.pm o.x.nm o.x.cm, .int .i64 o.x.of, .slice o.x.pp o.x.np o.x.cp, .string o.st, .slice o.lp o.ln o.lc, .int .i64 o.six, .int .i64 o.stm, .slice o.sp o.sn o.sc] 83)) := (Below.refl _ W1).alloc (Nat.le_refl _) _
  have HOP : Hid (OpsAt [o] (some ⟨W1.heap.size, 0, none⟩) (W1.alloc (.cells #[.int .i64 o.kd, .int .i64 o.a, .int .i64 o.b, .int .i64 o.m.kd, .int .i64 o.m.fr, .int .i64 o.m.tq, .int .i64 o.m.tm, .int .i64 o.m.ix, .int .i64 o.m.lt, .int .i64 o.m.cm, .int .i64 o.m.rd, .bool o.m.ok, .bool o.x.dn, .slice o.x.pe o.m.en.length o.x.ce, .slice o.x.pm o.x.nm o.x.cm, .int .i64 o.x.of, .slice o.x.pp o.x.np o.x.cp, .string o.st, .slice o.lp o.ln o.lc, .int .i64 o.six, .int .i64 o.stm, .slice o.sp o.sn o.sc] 83))) := Lib.hid ⟨one_cells W1 [.int .i64 o.kd, .int .i64 o.a, .int .i64 o.b, .int .i64 o.m.kd, .int .i64 o.m.fr, .int .i64 o.m.tq, .int .i64 o.m.tm, .int .i64 o.m.ix, .int .i64 o.m.lt, .int .i64 o.m.cm, .int .i64 o.m.rd, .bool o.m.ok, .bool o.x.dn, .slice o.x.pe o.m.en.length o.x.ce, .slice o.x.pm o.x.nm o.x.cm, .int .i64 o.x.of, .slice o.x.pp o.x.np o.x.cp, .string o.st, .slice o.lp o.ln o.lc, .int .i64 o.six, .int .i64 o.stm, .slice o.sp o.sn o.sc] 83 opcells o rfl, fun i hi => by
    have hi : i < 1 := hi
    obtain rfl : i = 0 := by omega
    exact HM.out.below hbb⟩
  have HLI := Lib.hid (light_ops (some ⟨W1.heap.size, 0, none⟩) 1 [o] _ HOP.out (by show (1 : Nat) ≤ _; omega) (fun i hi => by
    have hi : i < 1 := hi
    obtain rfl : i = 0 := by omega
    exact hs))
  have HBB := Lib.hid hbb
  clear hbb
  have HRUN : Hid ((loadVar 83 ⟨bo, 0, none⟩).run Tryz.prog W1 = .ok (.agg #[.int .i64 o.kd, .int .i64 o.a, .int .i64 o.b, .int .i64 o.m.kd, .int .i64 o.m.fr, .int .i64 o.m.tq, .int .i64 o.m.tm, .int .i64 o.m.ix, .int .i64 o.m.lt, .int .i64 o.m.cm, .int .i64 o.m.rd, .bool o.m.ok, .bool o.x.dn, .slice o.x.pe o.m.en.length o.x.ce, .slice o.x.pm o.x.nm o.x.cm, .int .i64 o.x.of, .slice o.x.pp o.x.np o.x.cp, .string o.st, .slice o.lp o.ln o.lc, .int .i64 o.six, .int .i64 o.stm, .slice o.sp o.sn o.sc]) W1) := Lib.hid (load_op o bo W1 HX1.out)
  rw [show ([o] : List OpL).length = 1 from rfl] at HLI
  refine wp_region_lit ?_
  refine wpL (by rfl) HRUN.out (by rfl) ?_
  go_wp2_with fail
  with_reducible refine (HLI.out).mono ?_
  rintro e W2 ⟨⟨β, rfl, _⟩, hb2⟩
  have HB12 : Hid (Below W1.heap.size W1 W2) := Lib.hid (HBB.out.trans (hb2.mono HBB.out.size))
  have HB2 := Lib.hid (HB1.out.trans (HB12.out.mono HB1.out.size))
  have HX2 := Lib.hid (HX1.out.below HB12.out)
  clear hb2 HLI HOP HBB HM HB1 HX1 X1 HB12 HRUN
  cases β with
  | false =>
    have HAC := Lib.hid (HAL.out W2)
    go_wp2_with fail
    with_reducible refine (HAC.out).mono ?_
    rintro e w3 ⟨rfl, hb3⟩
    have HB3 := Lib.hid (HB2.out.trans (hb3.mono HB2.out.size))
    go_wp2
    go_ret
    exact ⟨rfl, HB3.out⟩
  | true =>
  go_upto_region 5 with fail
  have X3 := CBox.fresh W2 [.int .i64 0, .int .i64 0, .int .i64 0, .int .i64 0, .int .i64 0, .int .i64 0, .int .i64 0, .int .i64 0, .int .i64 0, .slice none 0 0, .pointer none, .map none, .slice none 0 0, .slice none 0 0, .bool false, .int .i64 0, .slice none 0 0] 89
  dsimp only [List.toArray] at X3
  have hB3 := HB2.out.alloc HB2.out.size (.cells #[.int .i64 0, .int .i64 0, .int .i64 0, .int .i64 0, .int .i64 0, .int .i64 0, .int .i64 0, .int .i64 0, .int .i64 0, .slice none 0 0, .pointer none, .map none, .slice none 0 0, .slice none 0 0, .bool false, .int .i64 0, .slice none 0 0] 89)
  have hX3 := HX2.out.below ((Below.refl _ W2).alloc (Nat.le_refl _) (.cells #[.int .i64 0, .int .i64 0, .int .i64 0, .int .i64 0, .int .i64 0, .int .i64 0, .int .i64 0, .int .i64 0, .int .i64 0, .slice none 0 0, .pointer none, .map none, .slice none 0 0, .slice none 0 0, .bool false, .int .i64 0, .slice none 0 0] 89))
  generalize W2.alloc (.cells #[.int .i64 0, .int .i64 0, .int .i64 0, .int .i64 0, .int .i64 0, .int .i64 0, .int .i64 0, .int .i64 0, .int .i64 0, .slice none 0 0, .pointer none, .map none, .slice none 0 0, .slice none 0 0, .bool false, .int .i64 0, .slice none 0 0] 89) = Wz at *
  generalize W2.heap.size = zb at *
  have HBZ := Lib.hid hB3
  have HVZ : Hid (∀ W, Below Wz.heap.size Wz W → Void (.pointer (some ⟨zb, 0, none⟩)) W) := Lib.hid (fun W hW => Or.inr ⟨zb, rfl, (X3.below hW).1 10 _ rfl⟩)
  have HXO : Hid (∀ W, Below Wz.heap.size Wz W → CBox bo [.int .i64 o.kd, .int .i64 o.a, .int .i64 o.b, .int .i64 o.m.kd, .int .i64 o.m.fr, .int .i64 o.m.tq, .int .i64 o.m.tm, .int .i64 o.m.ix, .int .i64 o.m.lt, .int .i64 o.m.cm, .int .i64 o.m.rd, .bool o.m.ok, .bool o.x.dn, .slice o.x.pe o.m.en.length o.x.ce, .slice o.x.pm o.x.nm o.x.cm, .int .i64 o.x.of, .slice o.x.pp o.x.np o.x.cp, .string o.st, .slice o.lp o.ln o.lc, .int .i64 o.six, .int .i64 o.stm, .slice o.sp o.sn o.sc] W) := Lib.hid (fun W hW => hX3.below hW)
  clear X3 hB3 hX3 HB2 HX2
  have HBW0 : Hid (Below Wz.heap.size Wz Wz) := Lib.hid (Below.refl _ _)
  have HPR := Lib.hid (fun v W (hv : Void v W) => propose_void v 1 ⟨#[120]⟩ W hv)
  have HAS := Lib.hid (fun v W (hv : Void v W) => ask_void v W hv)
  have HRE := Lib.hid (fun v W (hv : Void v W) => restore_void v o.six o.stm o.sp o.sn o.sc W hv)
  have HSP : Hid (∀ W, Calls Tryz.prog 18 #[.pointer none, mxval o.m o.x] W fun e w' => e = .returned outZ ∧ Below W.heap.size W w') := Lib.hid (fun W => step_void _ o.m o.x W (.inl rfl))
  have HTK : Hid (∀ W, Calls Tryz.prog 28 #[.pointer none, .int .i64 o.a] W fun e w' => e = .returned outZ ∧ Below W.heap.size W w') := Lib.hid (fun W => tick_void _ o.a W (.inl rfl))
  unfold outZ at HPR HAS HRE HSP HTK
  unfold mxval at HSP
  have HST := Lib.hid (fun W => state_void (.pointer none) W (.inl rfl))
  have HPE := Lib.hid (fun W => peer_void (.pointer none) 1 W (.inl rfl))
  have HAK := Lib.hid (fun W => acked_void (.pointer none) W (.inl rfl))
  have HCO := Lib.hid (fun v W (hv : Void v W) => compact_void v o.a W hv)
  have HLO := Lib.hid (fun W => log_void (.pointer none) W (.inl rfl))
  have HSE := Lib.hid (fun W => sent_void (.pointer none) 1 1 W (.inl rfl))
  unfold outZ at HSE
  go_wp2_with fail
  with_reducible refine (HPR.out _ _ (void_nil _)).mono ?_
  rintro e Y1 ⟨rfl, hb⟩
  have HBY1 : Hid (Below Wz.heap.size Wz Y1) := Lib.hid (HBW0.out.trans (hb.mono (HBW0.out).size))
  clear hb
  go_wp2_with fail
  with_reducible refine (HPR.out _ _ (HVZ.out _ (HBY1.out.alloc HBY1.out.size _))).mono ?_
  rintro e Y2 ⟨rfl, hb⟩
  have HBY2 : Hid (Below Wz.heap.size Wz Y2) := Lib.hid ((HBY1.out.alloc HBY1.out.size _).trans (hb.mono ((HBY1.out.alloc HBY1.out.size _)).size))
  clear hb
  go_wp2_with fail
  with_reducible refine (HAS.out _ _ (void_nil _)).mono ?_
  rintro e Y3 ⟨rfl, hb⟩
  have HBY3 : Hid (Below Wz.heap.size Wz Y3) := Lib.hid ((HBY2.out.alloc HBY2.out.size _).trans (hb.mono ((HBY2.out.alloc HBY2.out.size _)).size))
  clear hb
  go_wp2_with fail
  with_reducible refine (HAS.out _ _ (HVZ.out _ (HBY3.out.alloc HBY3.out.size _))).mono ?_
  rintro e Y4 ⟨rfl, hb⟩
  have HBY4 : Hid (Below Wz.heap.size Wz Y4) := Lib.hid ((HBY3.out.alloc HBY3.out.size _).trans (hb.mono ((HBY3.out.alloc HBY3.out.size _)).size))
  clear hb
  have y19 := (HXO.out _ (HBY4.out.alloc HBY4.out.size (.cells #[.slice none 0 0, .bool false, .int .i64 0, .slice none 0 0] 37))).1 19 _ rfl
  have y20 := (HXO.out _ (HBY4.out.alloc HBY4.out.size (.cells #[.slice none 0 0, .bool false, .int .i64 0, .slice none 0 0] 37))).1 20 _ rfl
  have y21 := (HXO.out _ (HBY4.out.alloc HBY4.out.size (.cells #[.slice none 0 0, .bool false, .int .i64 0, .slice none 0 0] 37))).1 21 _ rfl
  go_wp2_with fail
  with_reducible refine (HRE.out _ _ (void_nil _)).mono ?_
  rintro e Y5 ⟨rfl, hb⟩
  have HBY5 : Hid (Below Wz.heap.size Wz Y5) := Lib.hid ((HBY4.out.alloc HBY4.out.size _).trans (hb.mono ((HBY4.out.alloc HBY4.out.size _)).size))
  clear hb y19 y20 y21
  have y19 := (HXO.out _ (HBY5.out.alloc HBY5.out.size (.cells #[.slice none 0 0, .bool false, .int .i64 0, .slice none 0 0] 37))).1 19 _ rfl
  have y20 := (HXO.out _ (HBY5.out.alloc HBY5.out.size (.cells #[.slice none 0 0, .bool false, .int .i64 0, .slice none 0 0] 37))).1 20 _ rfl
  have y21 := (HXO.out _ (HBY5.out.alloc HBY5.out.size (.cells #[.slice none 0 0, .bool false, .int .i64 0, .slice none 0 0] 37))).1 21 _ rfl
  go_wp2_with fail
  with_reducible refine (HRE.out _ _ (HVZ.out _ (HBY5.out.alloc HBY5.out.size _))).mono ?_
  rintro e Y6 ⟨rfl, hb⟩
  have HBY6 : Hid (Below Wz.heap.size Wz Y6) := Lib.hid ((HBY5.out.alloc HBY5.out.size _).trans (hb.mono ((HBY5.out.alloc HBY5.out.size _)).size))
  clear hb y19 y20 y21
  clear HPR HAS HRE
  go_upto_region 11 with fail
  have hB11 := HBY6.out.alloc HBY6.out.size (.cells #[.slice none 0 0, .bool false, .int .i64 0, .slice none 0 0] 37)
  generalize Y6.alloc (.cells #[.slice none 0 0, .bool false, .int .i64 0, .slice none 0 0] 37) = W11 at *
  have HB11 := Lib.hid hB11
  have hxo := HXO.out _ hB11
  have q1 : ∀ q : Later W11, q.1.cell? ⟨bo, 1, none⟩ = some (.int .i64 o.a) := fun q => (hxo.below q.2).1 1 _ rfl
  have q3 : ∀ q : Later W11, q.1.cell? ⟨bo, 3, none⟩ = some (.int .i64 o.m.kd) := fun q => (hxo.below q.2).1 3 _ rfl
  have q4 : ∀ q : Later W11, q.1.cell? ⟨bo, 4, none⟩ = some (.int .i64 o.m.fr) := fun q => (hxo.below q.2).1 4 _ rfl
  have q5 : ∀ q : Later W11, q.1.cell? ⟨bo, 5, none⟩ = some (.int .i64 o.m.tq) := fun q => (hxo.below q.2).1 5 _ rfl
  have q6 : ∀ q : Later W11, q.1.cell? ⟨bo, 6, none⟩ = some (.int .i64 o.m.tm) := fun q => (hxo.below q.2).1 6 _ rfl
  have q7 : ∀ q : Later W11, q.1.cell? ⟨bo, 7, none⟩ = some (.int .i64 o.m.ix) := fun q => (hxo.below q.2).1 7 _ rfl
  have q8 : ∀ q : Later W11, q.1.cell? ⟨bo, 8, none⟩ = some (.int .i64 o.m.lt) := fun q => (hxo.below q.2).1 8 _ rfl
  have q9 : ∀ q : Later W11, q.1.cell? ⟨bo, 9, none⟩ = some (.int .i64 o.m.cm) := fun q => (hxo.below q.2).1 9 _ rfl
  have q10 : ∀ q : Later W11, q.1.cell? ⟨bo, 10, none⟩ = some (.int .i64 o.m.rd) := fun q => (hxo.below q.2).1 10 _ rfl
  have q11 : ∀ q : Later W11, q.1.cell? ⟨bo, 11, none⟩ = some (.bool o.m.ok) := fun q => (hxo.below q.2).1 11 _ rfl
  have q12 : ∀ q : Later W11, q.1.cell? ⟨bo, 12, none⟩ = some (.bool o.x.dn) := fun q => (hxo.below q.2).1 12 _ rfl
  have q13 : ∀ q : Later W11, q.1.cell? ⟨bo, 13, none⟩ = some (.slice o.x.pe o.m.en.length o.x.ce) := fun q => (hxo.below q.2).1 13 _ rfl
  have q14 : ∀ q : Later W11, q.1.cell? ⟨bo, 14, none⟩ = some (.slice o.x.pm o.x.nm o.x.cm) := fun q => (hxo.below q.2).1 14 _ rfl
  have q15 : ∀ q : Later W11, q.1.cell? ⟨bo, 15, none⟩ = some (.int .i64 o.x.of) := fun q => (hxo.below q.2).1 15 _ rfl
  have q16 : ∀ q : Later W11, q.1.cell? ⟨bo, 16, none⟩ = some (.slice o.x.pp o.x.np o.x.cp) := fun q => (hxo.below q.2).1 16 _ rfl
  clear hB11 hxo
  go_cut [23, 24] (fun s23 s24 wx => ∃ B1 B2 : Nat, s23 = .pointer (some ⟨B1, 0, none⟩) ∧ s24 = .pointer (some ⟨B2, 0, none⟩) ∧ Hid (wx.cell? ⟨B1, 0, none⟩ = some (.slice none 0 0)) ∧ Hid (wx.cell? ⟨B2, 0, none⟩ = some (.slice none 0 0)) ∧ Hid (Below W11.heap.size W11 wx))
  case first =>
      go_wp2_with fail
      refine Mix.region_mix (n := 11) (m := 6) (fun V => ∃ q : Later W11, V = q.1) [0, 1, 2, 4, 5, 6] (by kernel_rfl) rfl rfl (by kernel_rfl) (by kernel_rfl) ⟨⟨_, (Below.refl _ _).drew⟩, rfl⟩ ?_
      repeat (refine Mix.picks_step rfl ?_; go_big_quiet_step (fail))
      refine Mix.picks_nil ?_
      intro inv
      have HBW0 := Lib.hid ((Below.refl W11.heap.size W11).drew)
      clear q1 q3 q4 q5 q6 q7 q8 q9 q10 q11 q12 q13 q14 q15 q16
      generalize W11.drew = W0 at *
      refine leaf_then #[true, true, true, true, true, true, true, true, true, true, false, false] 2 (.agg #[.slice none 0 0, .bool false, .int .i64 0, .slice none 0 0]) (.agg #[.slice none 0 0, .bool false, .int .i64 0, .slice none 0 0]) (fun W b8 b9 => CBox b8 [.slice none 0 0, .bool false, .int .i64 0, .slice none 0 0] W ∧ CBox b9 [.slice none 0 0, .bool false, .int .i64 0, .slice none 0 0] W ∧ b8 ≠ b9 ∧ Below W11.heap.size W11 W ∧ W11.heap.size ≤ b8 ∧ W11.heap.size ≤ b9) ?_ ?_
      · intro V b8 b9 hfa inv2
        obtain ⟨h8, h9, hne, hbv, hl8, hl9⟩ := hfa
        have F8 := Lib.hid h8
        have F9 := Lib.hid h9
        have HBV := Lib.hid hbv
        have HL8 := Lib.hid hl8
        have HL9 := Lib.hid hl9
        clear inv h8 h9 hbv hl8 hl9
        have inv := inv2
        clear inv2
        simp only [Act.put, List.setIfInBounds_toArray, List.set_cons_succ, List.set_cons_zero]
        have z0 := F8.out.1 0 _ rfl
        have y0 := F8.out.2.1 0 (by show 0 < 4; omega)
        have z1 := F8.out.1 1 _ rfl
        have y1 := F8.out.2.1 1 (by show 1 < 4; omega)
        have z2 := F8.out.1 2 _ rfl
        have y2 := F8.out.2.1 2 (by show 2 < 4; omega)
        have z3 := F8.out.1 3 _ rfl
        have y3 := F8.out.2.1 3 (by show 3 < 4; omega)
        have zz0 := F9.out.1 0 _ rfl
        have yy0 := F9.out.2.1 0 (by show 0 < 4; omega)
        have zz1 := F9.out.1 1 _ rfl
        have yy1 := F9.out.2.1 1 (by show 1 < 4; omega)
        have zz2 := F9.out.1 2 _ rfl
        have yy2 := F9.out.2.1 2 (by show 2 < 4; omega)
        have zz3 := F9.out.1 3 _ rfl
        have yy3 := F9.out.2.1 3 (by show 3 < 4; omega)
        have hne2 : b9 ≠ b8 := fun e => hne e.symm
        have HF := Lib.hid (set4_below (set4_below HBV.out b8 HL8.out (.slice none 0 0) (.bool false) (.int .i64 0) (.slice none 0 0)) b9 HL9.out (.slice none 0 0) (.bool false) (.int .i64 0) (.slice none 0 0))
        have HG := Lib.hid (set4_below HBV.out b8 HL8.out (.slice none 0 0) (.bool false) (.int .i64 0) (.slice none 0 0))
        have x8 := (((((((F8.out.set 0 (.slice none 0 0) (by show 0 < 4; omega)).set 1 (.bool false) (by show 1 < 4; omega)).set 2 (.int .i64 0) (by show 2 < 4; omega)).set 3 (.slice none 0 0) (by show 3 < 4; omega)).setO (k := 0) hne (.slice none 0 0)).setO (k := 1) hne (.bool false)).setO (k := 2) hne (.int .i64 0)).setO (k := 3) hne (.slice none 0 0)
        have x9 := (((((((F9.out.setO (k := 0) hne2 (.slice none 0 0)).setO (k := 1) hne2 (.bool false)).setO (k := 2) hne2 (.int .i64 0)).setO (k := 3) hne2 (.slice none 0 0)).set 0 (.slice none 0 0) (by show 0 < 4; omega)).set 1 (.bool false) (by show 1 < 4; omega)).set 2 (.int .i64 0) (by show 2 < 4; omega)).set 3 (.slice none 0 0) (by show 3 < 4; omega)
        have HX8 := Lib.hid (x8.1 0 _ rfl)
        have HX9 := Lib.hid (x9.1 0 _ rfl)
        clear x8 x9
        refine sink_one (i := 10) (by kernel_rfl) rfl (by omega) inv (fun K hK => ?_)
        have HKK := Lib.hid hK
        clear hK
        go_simp
        refine HKK.out _ _ ⟨⟨_, HG.out⟩, rfl⟩ ?_
        clear HKK inv
        intro hS inv
        (try simp only [Act.put]); (try simp only [List.setIfInBounds_toArray]); (try simp only [List.set_cons_succ]); (try simp only [List.set_cons_zero])
        refine sink_last (by kernel_rfl) rfl (by kernel_rfl) (fun K hK => ?_)
        have HKK := Lib.hid hK
        clear hK
        go_simp
        refine HKK.out _ _ ⟨rfl, ?_⟩
        clear HKK inv hS
        go_wp2
        go_meet
        case rel => exact ⟨b8, b9, rfl, rfl, HX8, HX9, HF⟩
      intro leaf
      simp only [Act.put, List.setIfInBounds_toArray, List.set_cons_succ, List.set_cons_zero] at leaf
      have LEAF := Lib.hid leaf
      clear leaf
      refine sink_three (i := 3) (j := 8) (k := 9) (by kernel_rfl) rfl rfl rfl (by omega) (by omega) (by omega) inv (fun K hK => ?_) (fun K hK => ?_) (fun K hK => ?_)
      · have HKK := Lib.hid hK
        clear hK
        go_simp
        with_reducible refine (HSP.out _).mono ?_
        rintro e V1 ⟨rfl, hbV1⟩
        have HBV1 := Lib.hid (HBW0.out.trans (hbV1.mono HBW0.out.size))
        clear hbV1
        refine HKK.out _ _ ⟨⟨_, HBV1.out⟩, rfl⟩ ?_
        clear HKK inv
        intro hS inv
        (try simp only [Act.put]); (try simp only [List.setIfInBounds_toArray]); (try simp only [List.set_cons_succ]); (try simp only [List.set_cons_zero])
        refine sink_three (i := 7) (j := 8) (k := 9) (by kernel_rfl) rfl rfl rfl (by omega) (by omega) (by omega) inv (fun K hK => ?_) (fun K hK => ?_) (fun K hK => ?_)
        · have HKK := Lib.hid hK
          clear hK
          go_simp
          with_reducible refine (HTK.out _).mono ?_
          rintro e V2 ⟨rfl, hbV2⟩
          have HBV2 := Lib.hid (HBV1.out.trans (hbV2.mono HBV1.out.size))
          clear hbV2
          refine HKK.out _ _ ⟨⟨_, HBV2.out⟩, rfl⟩ ?_
          clear HKK inv
          intro hS inv
          (try simp only [Act.put]); (try simp only [List.setIfInBounds_toArray]); (try simp only [List.set_cons_succ]); (try simp only [List.set_cons_zero])
          refine sink_two (i := 8) (j := 9) (by kernel_rfl) rfl rfl (by omega) (by omega) inv (fun K hK => ?_) (fun K hK => ?_)
          · have HKK := Lib.hid hK
            clear hK
            go_simp
            refine HKK.out _ _ ⟨⟨_, HBV2.out.alloc HBV2.out.size _⟩, rfl⟩ ?_
            clear HKK inv
            intro hS inv
            (try simp only [Act.put]); (try simp only [List.setIfInBounds_toArray]); (try simp only [List.set_cons_succ]); (try simp only [List.set_cons_zero])
            have hXV3 := CBox.fresh V2 [.slice none 0 0, .bool false, .int .i64 0, .slice none 0 0] 37
            dsimp only [List.toArray] at hXV3
            have hBV3 := HBV2.out.alloc HBV2.out.size (.cells #[.slice none 0 0, .bool false, .int .i64 0, .slice none 0 0] 37)
            have hLV3 := HBV2.out.size
            generalize V2.alloc (.cells #[.slice none 0 0, .bool false, .int .i64 0, .slice none 0 0] 37) = V3 at *
            generalize V2.heap.size = b8 at *
            have HBV3 := Lib.hid hBV3
            have X8V3 := Lib.hid hXV3
            have HL8 := Lib.hid hLV3
            clear hXV3 hBV3 hLV3
            refine sink_one (i := 9) (by kernel_rfl) rfl (by omega) inv (fun K hK => ?_)
            have HKK := Lib.hid hK
            clear hK
            go_simp
            refine HKK.out _ _ ⟨⟨_, HBV3.out.alloc HBV3.out.size _⟩, rfl⟩ ?_
            clear HKK inv
            intro hS inv
            (try simp only [Act.put]); (try simp only [List.setIfInBounds_toArray]); (try simp only [List.set_cons_succ]); (try simp only [List.set_cons_zero])
            have hXV4 := CBox.fresh V3 [.slice none 0 0, .bool false, .int .i64 0, .slice none 0 0] 37
            dsimp only [List.toArray] at hXV4
            have hBV4 := HBV3.out.alloc HBV3.out.size (.cells #[.slice none 0 0, .bool false, .int .i64 0, .slice none 0 0] 37)
            have hLV4 := HBV3.out.size
            have hx8V4 := X8V3.out.below ((Below.refl _ V3).alloc (Nat.le_refl _) (.cells #[.slice none 0 0, .bool false, .int .i64 0, .slice none 0 0] 37))
            have hn8V4 := X8V3.out.2.2
            generalize V3.alloc (.cells #[.slice none 0 0, .bool false, .int .i64 0, .slice none 0 0] 37) = V4 at *
            generalize V3.heap.size = b9 at *
            have HBV4 := Lib.hid hBV4
            have X9V4 := Lib.hid hXV4
            have HL9 := Lib.hid hLV4
            have X8V4 := Lib.hid hx8V4
            have hne : b8 ≠ b9 := by omega
            clear hx8V4 hn8V4
            clear hXV4 hBV4 hLV4
            refine wp_cast (l' := #[true, true, true, true, true, true, true, true, true, true, false, false]) (by kernel_rfl) ?_
            exact LEAF.out _ b8 b9 ⟨X8V4.out, X9V4.out, hne, HBV4.out, HL8.out, HL9.out⟩ (inv_cast (l' := #[true, true, true, true, true, true, true, true, true, true, false, false]) (by kernel_rfl) inv)
          · have HKK := Lib.hid hK
            clear hK
            go_simp
            refine HKK.out _ _ ⟨⟨_, HBV2.out.alloc HBV2.out.size _⟩, rfl⟩ ?_
            clear HKK inv
            intro hS inv
            (try simp only [Act.put]); (try simp only [List.setIfInBounds_toArray]); (try simp only [List.set_cons_succ]); (try simp only [List.set_cons_zero])
            have hXV5 := CBox.fresh V2 [.slice none 0 0, .bool false, .int .i64 0, .slice none 0 0] 37
            dsimp only [List.toArray] at hXV5
            have hBV5 := HBV2.out.alloc HBV2.out.size (.cells #[.slice none 0 0, .bool false, .int .i64 0, .slice none 0 0] 37)
            have hLV5 := HBV2.out.size
            generalize V2.alloc (.cells #[.slice none 0 0, .bool false, .int .i64 0, .slice none 0 0] 37) = V5 at *
            generalize V2.heap.size = b9 at *
            have HBV5 := Lib.hid hBV5
            have X9V5 := Lib.hid hXV5
            have HL9 := Lib.hid hLV5
            clear hXV5 hBV5 hLV5
            refine sink_one (i := 8) (by kernel_rfl) rfl (by omega) inv (fun K hK => ?_)
            have HKK := Lib.hid hK
            clear hK
            go_simp
            refine HKK.out _ _ ⟨⟨_, HBV5.out.alloc HBV5.out.size _⟩, rfl⟩ ?_
            clear HKK inv
            intro hS inv
            (try simp only [Act.put]); (try simp only [List.setIfInBounds_toArray]); (try simp only [List.set_cons_succ]); (try simp only [List.set_cons_zero])
            have hXV6 := CBox.fresh V5 [.slice none 0 0, .bool false, .int .i64 0, .slice none 0 0] 37
            dsimp only [List.toArray] at hXV6
            have hBV6 := HBV5.out.alloc HBV5.out.size (.cells #[.slice none 0 0, .bool false, .int .i64 0, .slice none 0 0] 37)
            have hLV6 := HBV5.out.size
            have hx9V6 := X9V5.out.below ((Below.refl _ V5).alloc (Nat.le_refl _) (.cells #[.slice none 0 0, .bool false, .int .i64 0, .slice none 0 0] 37))
            have hn9V6 := X9V5.out.2.2
            generalize V5.alloc (.cells #[.slice none 0 0, .bool false, .int .i64 0, .slice none 0 0] 37) = V6 at *
            generalize V5.heap.size = b8 at *
            have HBV6 := Lib.hid hBV6
            have X8V6 := Lib.hid hXV6
            have HL8 := Lib.hid hLV6
            have X9V6 := Lib.hid hx9V6
            have hne : b8 ≠ b9 := by omega
            clear hx9V6 hn9V6
            clear hXV6 hBV6 hLV6
            refine wp_cast (l' := #[true, true, true, true, true, true, true, true, true, true, false, false]) (by kernel_rfl) ?_
            exact LEAF.out _ b8 b9 ⟨X8V6.out, X9V6.out, hne, HBV6.out, HL8.out, HL9.out⟩ (inv_cast (l' := #[true, true, true, true, true, true, true, true, true, true, false, false]) (by kernel_rfl) inv)
        · have HKK := Lib.hid hK
          clear hK
          go_simp
          refine HKK.out _ _ ⟨⟨_, HBV1.out.alloc HBV1.out.size _⟩, rfl⟩ ?_
          clear HKK inv
          intro hS inv
          (try simp only [Act.put]); (try simp only [List.setIfInBounds_toArray]); (try simp only [List.set_cons_succ]); (try simp only [List.set_cons_zero])
          have hXV7 := CBox.fresh V1 [.slice none 0 0, .bool false, .int .i64 0, .slice none 0 0] 37
          dsimp only [List.toArray] at hXV7
          have hBV7 := HBV1.out.alloc HBV1.out.size (.cells #[.slice none 0 0, .bool false, .int .i64 0, .slice none 0 0] 37)
          have hLV7 := HBV1.out.size
          generalize V1.alloc (.cells #[.slice none 0 0, .bool false, .int .i64 0, .slice none 0 0] 37) = V7 at *
          generalize V1.heap.size = b8 at *
          have HBV7 := Lib.hid hBV7
          have X8V7 := Lib.hid hXV7
          have HL8 := Lib.hid hLV7
          clear hXV7 hBV7 hLV7
          refine sink_two (i := 7) (j := 9) (by kernel_rfl) rfl rfl (by omega) (by omega) inv (fun K hK => ?_) (fun K hK => ?_)
          · have HKK := Lib.hid hK
            clear hK
            go_simp
            with_reducible refine (HTK.out _).mono ?_
            rintro e V8 ⟨rfl, hbV8⟩
            have HBV8 := Lib.hid (HBV7.out.trans (hbV8.mono HBV7.out.size))
            have X8V8 := Lib.hid (X8V7.out.below hbV8)
            clear hbV8
            refine HKK.out _ _ ⟨⟨_, HBV8.out⟩, rfl⟩ ?_
            clear HKK inv
            intro hS inv
            (try simp only [Act.put]); (try simp only [List.setIfInBounds_toArray]); (try simp only [List.set_cons_succ]); (try simp only [List.set_cons_zero])
            refine sink_one (i := 9) (by kernel_rfl) rfl (by omega) inv (fun K hK => ?_)
            have HKK := Lib.hid hK
            clear hK
            go_simp
            refine HKK.out _ _ ⟨⟨_, HBV8.out.alloc HBV8.out.size _⟩, rfl⟩ ?_
            clear HKK inv
            intro hS inv
            (try simp only [Act.put]); (try simp only [List.setIfInBounds_toArray]); (try simp only [List.set_cons_succ]); (try simp only [List.set_cons_zero])
            have hXV9 := CBox.fresh V8 [.slice none 0 0, .bool false, .int .i64 0, .slice none 0 0] 37
            dsimp only [List.toArray] at hXV9
            have hBV9 := HBV8.out.alloc HBV8.out.size (.cells #[.slice none 0 0, .bool false, .int .i64 0, .slice none 0 0] 37)
            have hLV9 := HBV8.out.size
            have hx8V9 := X8V8.out.below ((Below.refl _ V8).alloc (Nat.le_refl _) (.cells #[.slice none 0 0, .bool false, .int .i64 0, .slice none 0 0] 37))
            have hn8V9 := X8V8.out.2.2
            generalize V8.alloc (.cells #[.slice none 0 0, .bool false, .int .i64 0, .slice none 0 0] 37) = V9 at *
            generalize V8.heap.size = b9 at *
            have HBV9 := Lib.hid hBV9
            have X9V9 := Lib.hid hXV9
            have HL9 := Lib.hid hLV9
            have X8V9 := Lib.hid hx8V9
            have hne : b8 ≠ b9 := by omega
            clear hx8V9 hn8V9
            clear hXV9 hBV9 hLV9
            refine wp_cast (l' := #[true, true, true, true, true, true, true, true, true, true, false, false]) (by kernel_rfl) ?_
            exact LEAF.out _ b8 b9 ⟨X8V9.out, X9V9.out, hne, HBV9.out, HL8.out, HL9.out⟩ (inv_cast (l' := #[true, true, true, true, true, true, true, true, true, true, false, false]) (by kernel_rfl) inv)
          · have HKK := Lib.hid hK
            clear hK
            go_simp
            refine HKK.out _ _ ⟨⟨_, HBV7.out.alloc HBV7.out.size _⟩, rfl⟩ ?_
            clear HKK inv
            intro hS inv
            (try simp only [Act.put]); (try simp only [List.setIfInBounds_toArray]); (try simp only [List.set_cons_succ]); (try simp only [List.set_cons_zero])
            have hXV10 := CBox.fresh V7 [.slice none 0 0, .bool false, .int .i64 0, .slice none 0 0] 37
            dsimp only [List.toArray] at hXV10
            have hBV10 := HBV7.out.alloc HBV7.out.size (.cells #[.slice none 0 0, .bool false, .int .i64 0, .slice none 0 0] 37)
            have hLV10 := HBV7.out.size
            have hx8V10 := X8V7.out.below ((Below.refl _ V7).alloc (Nat.le_refl _) (.cells #[.slice none 0 0, .bool false, .int .i64 0, .slice none 0 0] 37))
            have hn8V10 := X8V7.out.2.2
            generalize V7.alloc (.cells #[.slice none 0 0, .bool false, .int .i64 0, .slice none 0 0] 37) = V10 at *
            generalize V7.heap.size = b9 at *
            have HBV10 := Lib.hid hBV10
            have X9V10 := Lib.hid hXV10
            have HL9 := Lib.hid hLV10
            have X8V10 := Lib.hid hx8V10
            have hne : b8 ≠ b9 := by omega
            clear hx8V10 hn8V10
            clear hXV10 hBV10 hLV10
            refine sink_one (i := 7) (by kernel_rfl) rfl (by omega) inv (fun K hK => ?_)
            have HKK := Lib.hid hK
            clear hK
            go_simp
            with_reducible refine (HTK.out _).mono ?_
            rintro e V11 ⟨rfl, hbV11⟩
            have HBV11 := Lib.hid (HBV10.out.trans (hbV11.mono HBV10.out.size))
            have X8V11 := Lib.hid (X8V10.out.below hbV11)
            have X9V11 := Lib.hid (X9V10.out.below hbV11)
            clear hbV11
            refine HKK.out _ _ ⟨⟨_, HBV11.out⟩, rfl⟩ ?_
            clear HKK inv
            intro hS inv
            (try simp only [Act.put]); (try simp only [List.setIfInBounds_toArray]); (try simp only [List.set_cons_succ]); (try simp only [List.set_cons_zero])
            refine wp_cast (l' := #[true, true, true, true, true, true, true, true, true, true, false, false]) (by kernel_rfl) ?_
            exact LEAF.out _ b8 b9 ⟨X8V11.out, X9V11.out, hne, HBV11.out, HL8.out, HL9.out⟩ (inv_cast (l' := #[true, true, true, true, true, true, true, true, true, true, false, false]) (by kernel_rfl) inv)
        · have HKK := Lib.hid hK
          clear hK
          go_simp
          refine HKK.out _ _ ⟨⟨_, HBV1.out.alloc HBV1.out.size _⟩, rfl⟩ ?_
          clear HKK inv
          intro hS inv
          (try simp only [Act.put]); (try simp only [List.setIfInBounds_toArray]); (try simp only [List.set_cons_succ]); (try simp only [List.set_cons_zero])
          have hXV12 := CBox.fresh V1 [.slice none 0 0, .bool false, .int .i64 0, .slice none 0 0] 37
          dsimp only [List.toArray] at hXV12
          have hBV12 := HBV1.out.alloc HBV1.out.size (.cells #[.slice none 0 0, .bool false, .int .i64 0, .slice none 0 0] 37)
          have hLV12 := HBV1.out.size
          generalize V1.alloc (.cells #[.slice none 0 0, .bool false, .int .i64 0, .slice none 0 0] 37) = V12 at *
          generalize V1.heap.size = b9 at *
          have HBV12 := Lib.hid hBV12
          have X9V12 := Lib.hid hXV12
          have HL9 := Lib.hid hLV12
          clear hXV12 hBV12 hLV12
          refine sink_two (i := 7) (j := 8) (by kernel_rfl) rfl rfl (by omega) (by omega) inv (fun K hK => ?_) (fun K hK => ?_)
          · have HKK := Lib.hid hK
            clear hK
            go_simp
            with_reducible refine (HTK.out _).mono ?_
            rintro e V13 ⟨rfl, hbV13⟩
            have HBV13 := Lib.hid (HBV12.out.trans (hbV13.mono HBV12.out.size))
            have X9V13 := Lib.hid (X9V12.out.below hbV13)
            clear hbV13
            refine HKK.out _ _ ⟨⟨_, HBV13.out⟩, rfl⟩ ?_
            clear HKK inv
            intro hS inv
            (try simp only [Act.put]); (try simp only [List.setIfInBounds_toArray]); (try simp only [List.set_cons_succ]); (try simp only [List.set_cons_zero])
            refine sink_one (i := 8) (by kernel_rfl) rfl (by omega) inv (fun K hK => ?_)
            have HKK := Lib.hid hK
            clear hK
            go_simp
            refine HKK.out _ _ ⟨⟨_, HBV13.out.alloc HBV13.out.size _⟩, rfl⟩ ?_
            clear HKK inv
            intro hS inv
            (try simp only [Act.put]); (try simp only [List.setIfInBounds_toArray]); (try simp only [List.set_cons_succ]); (try simp only [List.set_cons_zero])
            have hXV14 := CBox.fresh V13 [.slice none 0 0, .bool false, .int .i64 0, .slice none 0 0] 37
            dsimp only [List.toArray] at hXV14
            have hBV14 := HBV13.out.alloc HBV13.out.size (.cells #[.slice none 0 0, .bool false, .int .i64 0, .slice none 0 0] 37)
            have hLV14 := HBV13.out.size
            have hx9V14 := X9V13.out.below ((Below.refl _ V13).alloc (Nat.le_refl _) (.cells #[.slice none 0 0, .bool false, .int .i64 0, .slice none 0 0] 37))
            have hn9V14 := X9V13.out.2.2
            generalize V13.alloc (.cells #[.slice none 0 0, .bool false, .int .i64 0, .slice none 0 0] 37) = V14 at *
            generalize V13.heap.size = b8 at *
            have HBV14 := Lib.hid hBV14
            have X8V14 := Lib.hid hXV14
            have HL8 := Lib.hid hLV14
            have X9V14 := Lib.hid hx9V14
            have hne : b8 ≠ b9 := by omega
            clear hx9V14 hn9V14
            clear hXV14 hBV14 hLV14
            refine wp_cast (l' := #[true, true, true, true, true, true, true, true, true, true, false, false]) (by kernel_rfl) ?_
            exact LEAF.out _ b8 b9 ⟨X8V14.out, X9V14.out, hne, HBV14.out, HL8.out, HL9.out⟩ (inv_cast (l' := #[true, true, true, true, true, true, true, true, true, true, false, false]) (by kernel_rfl) inv)
          · have HKK := Lib.hid hK
            clear hK
            go_simp
            refine HKK.out _ _ ⟨⟨_, HBV12.out.alloc HBV12.out.size _⟩, rfl⟩ ?_
            clear HKK inv
            intro hS inv
            (try simp only [Act.put]); (try simp only [List.setIfInBounds_toArray]); (try simp only [List.set_cons_succ]); (try simp only [List.set_cons_zero])
            have hXV15 := CBox.fresh V12 [.slice none 0 0, .bool false, .int .i64 0, .slice none 0 0] 37
            dsimp only [List.toArray] at hXV15
            have hBV15 := HBV12.out.alloc HBV12.out.size (.cells #[.slice none 0 0, .bool false, .int .i64 0, .slice none 0 0] 37)
            have hLV15 := HBV12.out.size
            have hx9V15 := X9V12.out.below ((Below.refl _ V12).alloc (Nat.le_refl _) (.cells #[.slice none 0 0, .bool false, .int .i64 0, .slice none 0 0] 37))
            have hn9V15 := X9V12.out.2.2
            generalize V12.alloc (.cells #[.slice none 0 0, .bool false, .int .i64 0, .slice none 0 0] 37) = V15 at *
            generalize V12.heap.size = b8 at *
            have HBV15 := Lib.hid hBV15
            have X8V15 := Lib.hid hXV15
            have HL8 := Lib.hid hLV15
            have X9V15 := Lib.hid hx9V15
            have hne : b8 ≠ b9 := by omega
            clear hx9V15 hn9V15
            clear hXV15 hBV15 hLV15
            refine sink_one (i := 7) (by kernel_rfl) rfl (by omega) inv (fun K hK => ?_)
            have HKK := Lib.hid hK
            clear hK
            go_simp
            with_reducible refine (HTK.out _).mono ?_
            rintro e V16 ⟨rfl, hbV16⟩
            have HBV16 := Lib.hid (HBV15.out.trans (hbV16.mono HBV15.out.size))
            have X9V16 := Lib.hid (X9V15.out.below hbV16)
            have X8V16 := Lib.hid (X8V15.out.below hbV16)
            clear hbV16
            refine HKK.out _ _ ⟨⟨_, HBV16.out⟩, rfl⟩ ?_
            clear HKK inv
            intro hS inv
            (try simp only [Act.put]); (try simp only [List.setIfInBounds_toArray]); (try simp only [List.set_cons_succ]); (try simp only [List.set_cons_zero])
            refine wp_cast (l' := #[true, true, true, true, true, true, true, true, true, true, false, false]) (by kernel_rfl) ?_
            exact LEAF.out _ b8 b9 ⟨X8V16.out, X9V16.out, hne, HBV16.out, HL8.out, HL9.out⟩ (inv_cast (l' := #[true, true, true, true, true, true, true, true, true, true, false, false]) (by kernel_rfl) inv)
      · have HKK := Lib.hid hK
        clear hK
        go_simp
        refine HKK.out _ _ ⟨⟨_, HBW0.out.alloc HBW0.out.size _⟩, rfl⟩ ?_
        clear HKK inv
        intro hS inv
        (try simp only [Act.put]); (try simp only [List.setIfInBounds_toArray]); (try simp only [List.set_cons_succ]); (try simp only [List.set_cons_zero])
        have hXV17 := CBox.fresh W0 [.slice none 0 0, .bool false, .int .i64 0, .slice none 0 0] 37
        dsimp only [List.toArray] at hXV17
        have hBV17 := HBW0.out.alloc HBW0.out.size (.cells #[.slice none 0 0, .bool false, .int .i64 0, .slice none 0 0] 37)
        have hLV17 := HBW0.out.size
        generalize W0.alloc (.cells #[.slice none 0 0, .bool false, .int .i64 0, .slice none 0 0] 37) = V17 at *
        generalize W0.heap.size = b8 at *
        have HBV17 := Lib.hid hBV17
        have X8V17 := Lib.hid hXV17
        have HL8 := Lib.hid hLV17
        clear hXV17 hBV17 hLV17
        refine sink_two (i := 3) (j := 9) (by kernel_rfl) rfl rfl (by omega) (by omega) inv (fun K hK => ?_) (fun K hK => ?_)
        · have HKK := Lib.hid hK
          clear hK
          go_simp
          with_reducible refine (HSP.out _).mono ?_
          rintro e V18 ⟨rfl, hbV18⟩
          have HBV18 := Lib.hid (HBV17.out.trans (hbV18.mono HBV17.out.size))
          have X8V18 := Lib.hid (X8V17.out.below hbV18)
          clear hbV18
          refine HKK.out _ _ ⟨⟨_, HBV18.out⟩, rfl⟩ ?_
          clear HKK inv
          intro hS inv
          (try simp only [Act.put]); (try simp only [List.setIfInBounds_toArray]); (try simp only [List.set_cons_succ]); (try simp only [List.set_cons_zero])
          refine sink_two (i := 7) (j := 9) (by kernel_rfl) rfl rfl (by omega) (by omega) inv (fun K hK => ?_) (fun K hK => ?_)
          · have HKK := Lib.hid hK
            clear hK
            go_simp
            with_reducible refine (HTK.out _).mono ?_
            rintro e V19 ⟨rfl, hbV19⟩
            have HBV19 := Lib.hid (HBV18.out.trans (hbV19.mono HBV18.out.size))
            have X8V19 := Lib.hid (X8V18.out.below hbV19)
            clear hbV19
            refine HKK.out _ _ ⟨⟨_, HBV19.out⟩, rfl⟩ ?_
            clear HKK inv
            intro hS inv
            (try simp only [Act.put]); (try simp only [List.setIfInBounds_toArray]); (try simp only [List.set_cons_succ]); (try simp only [List.set_cons_zero])
            refine sink_one (i := 9) (by kernel_rfl) rfl (by omega) inv (fun K hK => ?_)
            have HKK := Lib.hid hK
            clear hK
            go_simp
            refine HKK.out _ _ ⟨⟨_, HBV19.out.alloc HBV19.out.size _⟩, rfl⟩ ?_
            clear HKK inv
            intro hS inv
            (try simp only [Act.put]); (try simp only [List.setIfInBounds_toArray]); (try simp only [List.set_cons_succ]); (try simp only [List.set_cons_zero])
            have hXV20 := CBox.fresh V19 [.slice none 0 0, .bool false, .int .i64 0, .slice none 0 0] 37
            dsimp only [List.toArray] at hXV20
            have hBV20 := HBV19.out.alloc HBV19.out.size (.cells #[.slice none 0 0, .bool false, .int .i64 0, .slice none 0 0] 37)
            have hLV20 := HBV19.out.size
            have hx8V20 := X8V19.out.below ((Below.refl _ V19).alloc (Nat.le_refl _) (.cells #[.slice none 0 0, .bool false, .int .i64 0, .slice none 0 0] 37))
            have hn8V20 := X8V19.out.2.2
            generalize V19.alloc (.cells #[.slice none 0 0, .bool false, .int .i64 0, .slice none 0 0] 37) = V20 at *
            generalize V19.heap.size = b9 at *
            have HBV20 := Lib.hid hBV20
            have X9V20 := Lib.hid hXV20
            have HL9 := Lib.hid hLV20
            have X8V20 := Lib.hid hx8V20
            have hne : b8 ≠ b9 := by omega
            clear hx8V20 hn8V20
            clear hXV20 hBV20 hLV20
            refine wp_cast (l' := #[true, true, true, true, true, true, true, true, true, true, false, false]) (by kernel_rfl) ?_
            exact LEAF.out _ b8 b9 ⟨X8V20.out, X9V20.out, hne, HBV20.out, HL8.out, HL9.out⟩ (inv_cast (l' := #[true, true, true, true, true, true, true, true, true, true, false, false]) (by kernel_rfl) inv)
          · have HKK := Lib.hid hK
            clear hK
            go_simp
            refine HKK.out _ _ ⟨⟨_, HBV18.out.alloc HBV18.out.size _⟩, rfl⟩ ?_
            clear HKK inv
            intro hS inv
            (try simp only [Act.put]); (try simp only [List.setIfInBounds_toArray]); (try simp only [List.set_cons_succ]); (try simp only [List.set_cons_zero])
            have hXV21 := CBox.fresh V18 [.slice none 0 0, .bool false, .int .i64 0, .slice none 0 0] 37
            dsimp only [List.toArray] at hXV21
            have hBV21 := HBV18.out.alloc HBV18.out.size (.cells #[.slice none 0 0, .bool false, .int .i64 0, .slice none 0 0] 37)
            have hLV21 := HBV18.out.size
            have hx8V21 := X8V18.out.below ((Below.refl _ V18).alloc (Nat.le_refl _) (.cells #[.slice none 0 0, .bool false, .int .i64 0, .slice none 0 0] 37))
            have hn8V21 := X8V18.out.2.2
            generalize V18.alloc (.cells #[.slice none 0 0, .bool false, .int .i64 0, .slice none 0 0] 37) = V21 at *
            generalize V18.heap.size = b9 at *
            have HBV21 := Lib.hid hBV21
            have X9V21 := Lib.hid hXV21
            have HL9 := Lib.hid hLV21
            have X8V21 := Lib.hid hx8V21
            have hne : b8 ≠ b9 := by omega
            clear hx8V21 hn8V21
            clear hXV21 hBV21 hLV21
            refine sink_one (i := 7) (by kernel_rfl) rfl (by omega) inv (fun K hK => ?_)
            have HKK := Lib.hid hK
            clear hK
            go_simp
            with_reducible refine (HTK.out _).mono ?_
            rintro e V22 ⟨rfl, hbV22⟩
            have HBV22 := Lib.hid (HBV21.out.trans (hbV22.mono HBV21.out.size))
            have X8V22 := Lib.hid (X8V21.out.below hbV22)
            have X9V22 := Lib.hid (X9V21.out.below hbV22)
            clear hbV22
            refine HKK.out _ _ ⟨⟨_, HBV22.out⟩, rfl⟩ ?_
            clear HKK inv
            intro hS inv
            (try simp only [Act.put]); (try simp only [List.setIfInBounds_toArray]); (try simp only [List.set_cons_succ]); (try simp only [List.set_cons_zero])
            refine wp_cast (l' := #[true, true, true, true, true, true, true, true, true, true, false, false]) (by kernel_rfl) ?_
            exact LEAF.out _ b8 b9 ⟨X8V22.out, X9V22.out, hne, HBV22.out, HL8.out, HL9.out⟩ (inv_cast (l' := #[true, true, true, true, true, true, true, true, true, true, false, false]) (by kernel_rfl) inv)
        · have HKK := Lib.hid hK
          clear hK
          go_simp
          refine HKK.out _ _ ⟨⟨_, HBV17.out.alloc HBV17.out.size _⟩, rfl⟩ ?_
          clear HKK inv
          intro hS inv
          (try simp only [Act.put]); (try simp only [List.setIfInBounds_toArray]); (try simp only [List.set_cons_succ]); (try simp only [List.set_cons_zero])
          have hXV23 := CBox.fresh V17 [.slice none 0 0, .bool false, .int .i64 0, .slice none 0 0] 37
          dsimp only [List.toArray] at hXV23
          have hBV23 := HBV17.out.alloc HBV17.out.size (.cells #[.slice none 0 0, .bool false, .int .i64 0, .slice none 0 0] 37)
          have hLV23 := HBV17.out.size
          have hx8V23 := X8V17.out.below ((Below.refl _ V17).alloc (Nat.le_refl _) (.cells #[.slice none 0 0, .bool false, .int .i64 0, .slice none 0 0] 37))
          have hn8V23 := X8V17.out.2.2
          generalize V17.alloc (.cells #[.slice none 0 0, .bool false, .int .i64 0, .slice none 0 0] 37) = V23 at *
          generalize V17.heap.size = b9 at *
          have HBV23 := Lib.hid hBV23
          have X9V23 := Lib.hid hXV23
          have HL9 := Lib.hid hLV23
          have X8V23 := Lib.hid hx8V23
          have hne : b8 ≠ b9 := by omega
          clear hx8V23 hn8V23
          clear hXV23 hBV23 hLV23
          refine sink_one (i := 3) (by kernel_rfl) rfl (by omega) inv (fun K hK => ?_)
          have HKK := Lib.hid hK
          clear hK
          go_simp
          with_reducible refine (HSP.out _).mono ?_
          rintro e V24 ⟨rfl, hbV24⟩
          have HBV24 := Lib.hid (HBV23.out.trans (hbV24.mono HBV23.out.size))
          have X8V24 := Lib.hid (X8V23.out.below hbV24)
          have X9V24 := Lib.hid (X9V23.out.below hbV24)
          clear hbV24
          refine HKK.out _ _ ⟨⟨_, HBV24.out⟩, rfl⟩ ?_
          clear HKK inv
          intro hS inv
          (try simp only [Act.put]); (try simp only [List.setIfInBounds_toArray]); (try simp only [List.set_cons_succ]); (try simp only [List.set_cons_zero])
          refine sink_one (i := 7) (by kernel_rfl) rfl (by omega) inv (fun K hK => ?_)
          have HKK := Lib.hid hK
          clear hK
          go_simp
          with_reducible refine (HTK.out _).mono ?_
          rintro e V25 ⟨rfl, hbV25⟩
          have HBV25 := Lib.hid (HBV24.out.trans (hbV25.mono HBV24.out.size))
          have X8V25 := Lib.hid (X8V24.out.below hbV25)
          have X9V25 := Lib.hid (X9V24.out.below hbV25)
          clear hbV25
          refine HKK.out _ _ ⟨⟨_, HBV25.out⟩, rfl⟩ ?_
          clear HKK inv
          intro hS inv
          (try simp only [Act.put]); (try simp only [List.setIfInBounds_toArray]); (try simp only [List.set_cons_succ]); (try simp only [List.set_cons_zero])
          refine wp_cast (l' := #[true, true, true, true, true, true, true, true, true, true, false, false]) (by kernel_rfl) ?_
          exact LEAF.out _ b8 b9 ⟨X8V25.out, X9V25.out, hne, HBV25.out, HL8.out, HL9.out⟩ (inv_cast (l' := #[true, true, true, true, true, true, true, true, true, true, false, false]) (by kernel_rfl) inv)
      · have HKK := Lib.hid hK
        clear hK
        go_simp
        refine HKK.out _ _ ⟨⟨_, HBW0.out.alloc HBW0.out.size _⟩, rfl⟩ ?_
        clear HKK inv
        intro hS inv
        (try simp only [Act.put]); (try simp only [List.setIfInBounds_toArray]); (try simp only [List.set_cons_succ]); (try simp only [List.set_cons_zero])
        have hXV26 := CBox.fresh W0 [.slice none 0 0, .bool false, .int .i64 0, .slice none 0 0] 37
        dsimp only [List.toArray] at hXV26
        have hBV26 := HBW0.out.alloc HBW0.out.size (.cells #[.slice none 0 0, .bool false, .int .i64 0, .slice none 0 0] 37)
        have hLV26 := HBW0.out.size
        generalize W0.alloc (.cells #[.slice none 0 0, .bool false, .int .i64 0, .slice none 0 0] 37) = V26 at *
        generalize W0.heap.size = b9 at *
        have HBV26 := Lib.hid hBV26
        have X9V26 := Lib.hid hXV26
        have HL9 := Lib.hid hLV26
        clear hXV26 hBV26 hLV26
        refine sink_two (i := 3) (j := 8) (by kernel_rfl) rfl rfl (by omega) (by omega) inv (fun K hK => ?_) (fun K hK => ?_)
        · have HKK := Lib.hid hK
          clear hK
          go_simp
          with_reducible refine (HSP.out _).mono ?_
          rintro e V27 ⟨rfl, hbV27⟩
          have HBV27 := Lib.hid (HBV26.out.trans (hbV27.mono HBV26.out.size))
          have X9V27 := Lib.hid (X9V26.out.below hbV27)
          clear hbV27
          refine HKK.out _ _ ⟨⟨_, HBV27.out⟩, rfl⟩ ?_
          clear HKK inv
          intro hS inv
          (try simp only [Act.put]); (try simp only [List.setIfInBounds_toArray]); (try simp only [List.set_cons_succ]); (try simp only [List.set_cons_zero])
          refine sink_two (i := 7) (j := 8) (by kernel_rfl) rfl rfl (by omega) (by omega) inv (fun K hK => ?_) (fun K hK => ?_)
          · have HKK := Lib.hid hK
            clear hK
            go_simp
            with_reducible refine (HTK.out _).mono ?_
            rintro e V28 ⟨rfl, hbV28⟩
            have HBV28 := Lib.hid (HBV27.out.trans (hbV28.mono HBV27.out.size))
            have X9V28 := Lib.hid (X9V27.out.below hbV28)
            clear hbV28
            refine HKK.out _ _ ⟨⟨_, HBV28.out⟩, rfl⟩ ?_
            clear HKK inv
            intro hS inv
            (try simp only [Act.put]); (try simp only [List.setIfInBounds_toArray]); (try simp only [List.set_cons_succ]); (try simp only [List.set_cons_zero])
            refine sink_one (i := 8) (by kernel_rfl) rfl (by omega) inv (fun K hK => ?_)
            have HKK := Lib.hid hK
            clear hK
            go_simp
            refine HKK.out _ _ ⟨⟨_, HBV28.out.alloc HBV28.out.size _⟩, rfl⟩ ?_
            clear HKK inv
            intro hS inv
            (try simp only [Act.put]); (try simp only [List.setIfInBounds_toArray]); (try simp only [List.set_cons_succ]); (try simp only [List.set_cons_zero])
            have hXV29 := CBox.fresh V28 [.slice none 0 0, .bool false, .int .i64 0, .slice none 0 0] 37
            dsimp only [List.toArray] at hXV29
            have hBV29 := HBV28.out.alloc HBV28.out.size (.cells #[.slice none 0 0, .bool false, .int .i64 0, .slice none 0 0] 37)
            have hLV29 := HBV28.out.size
            have hx9V29 := X9V28.out.below ((Below.refl _ V28).alloc (Nat.le_refl _) (.cells #[.slice none 0 0, .bool false, .int .i64 0, .slice none 0 0] 37))
            have hn9V29 := X9V28.out.2.2
            generalize V28.alloc (.cells #[.slice none 0 0, .bool false, .int .i64 0, .slice none 0 0] 37) = V29 at *
            generalize V28.heap.size = b8 at *
            have HBV29 := Lib.hid hBV29
            have X8V29 := Lib.hid hXV29
            have HL8 := Lib.hid hLV29
            have X9V29 := Lib.hid hx9V29
            have hne : b8 ≠ b9 := by omega
            clear hx9V29 hn9V29
            clear hXV29 hBV29 hLV29
            refine wp_cast (l' := #[true, true, true, true, true, true, true, true, true, true, false, false]) (by kernel_rfl) ?_
            exact LEAF.out _ b8 b9 ⟨X8V29.out, X9V29.out, hne, HBV29.out, HL8.out, HL9.out⟩ (inv_cast (l' := #[true, true, true, true, true, true, true, true, true, true, false, false]) (by kernel_rfl) inv)
          · have HKK := Lib.hid hK
            clear hK
            go_simp
            refine HKK.out _ _ ⟨⟨_, HBV27.out.alloc HBV27.out.size _⟩, rfl⟩ ?_
            clear HKK inv
            intro hS inv
            (try simp only [Act.put]); (try simp only [List.setIfInBounds_toArray]); (try simp only [List.set_cons_succ]); (try simp only [List.set_cons_zero])
            have hXV30 := CBox.fresh V27 [.slice none 0 0, .bool false, .int .i64 0, .slice none 0 0] 37
            dsimp only [List.toArray] at hXV30
            have hBV30 := HBV27.out.alloc HBV27.out.size (.cells #[.slice none 0 0, .bool false, .int .i64 0, .slice none 0 0] 37)
            have hLV30 := HBV27.out.size
            have hx9V30 := X9V27.out.below ((Below.refl _ V27).alloc (Nat.le_refl _) (.cells #[.slice none 0 0, .bool false, .int .i64 0, .slice none 0 0] 37))
            have hn9V30 := X9V27.out.2.2
            generalize V27.alloc (.cells #[.slice none 0 0, .bool false, .int .i64 0, .slice none 0 0] 37) = V30 at *
            generalize V27.heap.size = b8 at *
            have HBV30 := Lib.hid hBV30
            have X8V30 := Lib.hid hXV30
            have HL8 := Lib.hid hLV30
            have X9V30 := Lib.hid hx9V30
            have hne : b8 ≠ b9 := by omega
            clear hx9V30 hn9V30
            clear hXV30 hBV30 hLV30
            refine sink_one (i := 7) (by kernel_rfl) rfl (by omega) inv (fun K hK => ?_)
            have HKK := Lib.hid hK
            clear hK
            go_simp
            with_reducible refine (HTK.out _).mono ?_
            rintro e V31 ⟨rfl, hbV31⟩
            have HBV31 := Lib.hid (HBV30.out.trans (hbV31.mono HBV30.out.size))
            have X9V31 := Lib.hid (X9V30.out.below hbV31)
            have X8V31 := Lib.hid (X8V30.out.below hbV31)
            clear hbV31
            refine HKK.out _ _ ⟨⟨_, HBV31.out⟩, rfl⟩ ?_
            clear HKK inv
            intro hS inv
            (try simp only [Act.put]); (try simp only [List.setIfInBounds_toArray]); (try simp only [List.set_cons_succ]); (try simp only [List.set_cons_zero])
            refine wp_cast (l' := #[true, true, true, true, true, true, true, true, true, true, false, false]) (by kernel_rfl) ?_
            exact LEAF.out _ b8 b9 ⟨X8V31.out, X9V31.out, hne, HBV31.out, HL8.out, HL9.out⟩ (inv_cast (l' := #[true, true, true, true, true, true, true, true, true, true, false, false]) (by kernel_rfl) inv)
        · have HKK := Lib.hid hK
          clear hK
          go_simp
          refine HKK.out _ _ ⟨⟨_, HBV26.out.alloc HBV26.out.size _⟩, rfl⟩ ?_
          clear HKK inv
          intro hS inv
          (try simp only [Act.put]); (try simp only [List.setIfInBounds_toArray]); (try simp only [List.set_cons_succ]); (try simp only [List.set_cons_zero])
          have hXV32 := CBox.fresh V26 [.slice none 0 0, .bool false, .int .i64 0, .slice none 0 0] 37
          dsimp only [List.toArray] at hXV32
          have hBV32 := HBV26.out.alloc HBV26.out.size (.cells #[.slice none 0 0, .bool false, .int .i64 0, .slice none 0 0] 37)
          have hLV32 := HBV26.out.size
          have hx9V32 := X9V26.out.below ((Below.refl _ V26).alloc (Nat.le_refl _) (.cells #[.slice none 0 0, .bool false, .int .i64 0, .slice none 0 0] 37))
          have hn9V32 := X9V26.out.2.2
          generalize V26.alloc (.cells #[.slice none 0 0, .bool false, .int .i64 0, .slice none 0 0] 37) = V32 at *
          generalize V26.heap.size = b8 at *
          have HBV32 := Lib.hid hBV32
          have X8V32 := Lib.hid hXV32
          have HL8 := Lib.hid hLV32
          have X9V32 := Lib.hid hx9V32
          have hne : b8 ≠ b9 := by omega
          clear hx9V32 hn9V32
          clear hXV32 hBV32 hLV32
          refine sink_one (i := 3) (by kernel_rfl) rfl (by omega) inv (fun K hK => ?_)
          have HKK := Lib.hid hK
          clear hK
          go_simp
          with_reducible refine (HSP.out _).mono ?_
          rintro e V33 ⟨rfl, hbV33⟩
          have HBV33 := Lib.hid (HBV32.out.trans (hbV33.mono HBV32.out.size))
          have X9V33 := Lib.hid (X9V32.out.below hbV33)
          have X8V33 := Lib.hid (X8V32.out.below hbV33)
          clear hbV33
          refine HKK.out _ _ ⟨⟨_, HBV33.out⟩, rfl⟩ ?_
          clear HKK inv
          intro hS inv
          (try simp only [Act.put]); (try simp only [List.setIfInBounds_toArray]); (try simp only [List.set_cons_succ]); (try simp only [List.set_cons_zero])
          refine sink_one (i := 7) (by kernel_rfl) rfl (by omega) inv (fun K hK => ?_)
          have HKK := Lib.hid hK
          clear hK
          go_simp
          with_reducible refine (HTK.out _).mono ?_
          rintro e V34 ⟨rfl, hbV34⟩
          have HBV34 := Lib.hid (HBV33.out.trans (hbV34.mono HBV33.out.size))
          have X9V34 := Lib.hid (X9V33.out.below hbV34)
          have X8V34 := Lib.hid (X8V33.out.below hbV34)
          clear hbV34
          refine HKK.out _ _ ⟨⟨_, HBV34.out⟩, rfl⟩ ?_
          clear HKK inv
          intro hS inv
          (try simp only [Act.put]); (try simp only [List.setIfInBounds_toArray]); (try simp only [List.set_cons_succ]); (try simp only [List.set_cons_zero])
          refine wp_cast (l' := #[true, true, true, true, true, true, true, true, true, true, false, false]) (by kernel_rfl) ?_
          exact LEAF.out _ b8 b9 ⟨X8V34.out, X9V34.out, hne, HBV34.out, HL8.out, HL9.out⟩ (inv_cast (l' := #[true, true, true, true, true, true, true, true, true, true, false, false]) (by kernel_rfl) inv)
  case rest =>
  obtain ⟨B1, B2, rfl, rfl, HC1, HC2, HB12⟩ := hcut
  generalize wc = W12 at *
  have HBW := Lib.hid (HB11.out.trans (HB12.out.mono HB11.out.size))
  clear q1 q3 q4 q5 q6 q7 q8 q9 q10 q11 q12 q13 q14 q15 q16
  go_wp2_with fail
  with_reducible refine (HST.out _).mono ?_
  rintro e W13 ⟨rfl, hb⟩
  have HC3 := Lib.hid ((hb.cell (p := ⟨B1, 0, none⟩) (cell_lt HC1.out)).trans HC1.out)
  have HC4 := Lib.hid ((hb.cell (p := ⟨B2, 0, none⟩) (cell_lt HC2.out)).trans HC2.out)
  have HBW13 := Lib.hid (HBW.out.trans (hb.mono HBW.out.size))
  clear hb HST HC1 HC2
  go_upto_region 13 with fail
  have X25 := CBox.fresh W13 [.int .i64 0, .int .i64 0, .int .i64 0, .int .i64 0, .int .i64 0, .int .i64 0, .int .i64 0, .int .i64 0, .int .i64 0, .int .i64 0, .int .i64 0, .int .i64 0, .slice none 0 0] 41
  dsimp only [List.toArray] at X25
  have hB14 := HBW13.out.alloc HBW13.out.size (.cells #[.int .i64 0, .int .i64 0, .int .i64 0, .int .i64 0, .int .i64 0, .int .i64 0, .int .i64 0, .int .i64 0, .int .i64 0, .int .i64 0, .int .i64 0, .int .i64 0, .slice none 0 0] 41)
  have hb14 := (Below.refl _ W13).alloc (Nat.le_refl _) (.cells #[.int .i64 0, .int .i64 0, .int .i64 0, .int .i64 0, .int .i64 0, .int .i64 0, .int .i64 0, .int .i64 0, .int .i64 0, .int .i64 0, .int .i64 0, .int .i64 0, .slice none 0 0] 41)
  have hc5 := (hb14.cell (p := ⟨B1, 0, none⟩) (cell_lt HC3.out)).trans HC3.out
  have hc6 := (hb14.cell (p := ⟨B2, 0, none⟩) (cell_lt HC4.out)).trans HC4.out
  generalize W13.alloc (.cells #[.int .i64 0, .int .i64 0, .int .i64 0, .int .i64 0, .int .i64 0, .int .i64 0, .int .i64 0, .int .i64 0, .int .i64 0, .int .i64 0, .int .i64 0, .int .i64 0, .slice none 0 0] 41) = W14 at *
  generalize W13.heap.size = b25 at *
  have HB14 := Lib.hid hB14
  have HX25 := Lib.hid X25
  have HC5 := Lib.hid (And.intro hc5 hc6)
  clear X25 hB14 hb14 hc5 hc6 HBW13 HC3 HC4
  go_wp2_with fail
  with_reducible refine (HPE.out _).mono ?_
  rintro e W15 ⟨rfl, rfl⟩
  have q1 : ∀ q : Later W15, q.1.cell? ⟨B1, 0, none⟩ = some (.slice none 0 0) := fun q => (q.2.cell (p := ⟨B1, 0, none⟩) (cell_lt HC5.out.1)).trans HC5.out.1
  have q2 : ∀ q : Later W15, q.1.cell? ⟨B2, 0, none⟩ = some (.slice none 0 0) := fun q => (q.2.cell (p := ⟨B2, 0, none⟩) (cell_lt HC5.out.2)).trans HC5.out.2
  have s0 : ∀ q : Later W15, q.1.cell? ⟨b25, 0, none⟩ = some (.int .i64 0) := fun q => (HX25.out.below q.2).1 0 _ rfl
  have s3 : ∀ q : Later W15, q.1.cell? ⟨b25, 3, none⟩ = some (.int .i64 0) := fun q => (HX25.out.below q.2).1 3 _ rfl
  have x1 : ∀ q : Later W15, q.1.cell? ⟨bo, 1, none⟩ = some (.int .i64 o.a) := fun q => (HXO.out _ (HB14.out.trans (q.2.mono HB14.out.size))).1 1 _ rfl
  have HCZ : Hid (∀ q : Later W15, Calls Tryz.prog 38 #[.pointer (some ⟨zb, 0, none⟩), .int .i64 o.a] q.1 fun e w' => e = .returned (.bool false) ∧ w' = q.1) := Lib.hid (fun q => HCO.out _ _ (HVZ.out _ (HB14.out.trans (q.2.mono HB14.out.size))))
  have HCN : Hid (∀ q : Later W15, Calls Tryz.prog 38 #[.pointer none, .int .i64 o.a] q.1 fun e w' => e = .returned (.bool false) ∧ w' = q.1) := Lib.hid (fun q => HCO.out _ _ (void_nil _))
  have hfd : ∀ W : World, (Instr.field 37 (.agg #[.slice none 0 0, .bool false, .int .i64 0, .slice none 0 0]) 0).run Tryz.prog W = .ok (.slice none 0 0) W := fun W => by kernel_rfl
  clear HPE HCO
  go_wp2_with fail
  dsimp only [List.append]
  refine wp_region_later (by kernel_rfl) (by kernel_rfl) ?_
  repeat (go_big_quiet_step ((first | (go_at_call 13; exact Calls.later_of (HAL.out _)) | (go_at_call 33; exact Calls.later_same (HAK.out _)) | (go_at_call 38; with_reducible exact Calls.later_same (HCN.out _)) | (go_at_call 38; exact Calls.later_same (HCZ.out _)) | (go_at_call 39; exact Calls.later_same (HLO.out _)) | (go_at_call 40; exact Calls.later_of (HSE.out _)))))
  refine wpQuiet_nil ?_
  intro W16 hw'
  obtain ⟨⟨wq, hq⟩, hw''⟩ := hw'
  have hwe : W16 = wq := hw''
  clear hw''
  subst hwe
  have HB17 := Lib.hid (HB14.out.trans (hq.mono HB14.out.size))
  clear hq q1 q2 s0 s3 x1
  go_wp2
  go_ret
  exact ⟨rfl, HBZ.out.trans (HB17.out.mono HBZ.out.size)⟩
end RF
end Go.Proofs.YtaodldagmmephaaGreat
