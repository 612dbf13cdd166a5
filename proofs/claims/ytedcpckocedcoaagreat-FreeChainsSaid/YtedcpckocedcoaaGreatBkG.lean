/- The Book of ints: growInts. -/
import Derived.Test.YtedcpckocedcoaaGreatBkK
namespace Go.Proofs.YtedcpckocedcoaaGreat
open Go.RowKit

theorem info_ints : (Tryz.prog.info? 22).map (fun i => (i.zero, i.size, i.bytes)) = some (some (.slice none 0 0), 1, 24) := by kernel_rfl

set_option maxRecDepth 100000 in
/-- append(row of slices, one more). -/
theorem append_slice {ops : Array Oper} {rest : List Oper} {o : Oper} {a : Act} {Q : Exit → Act → World → Prop} {w : World} (hgd : o.guard = none) (s x : Operand)
    (ho : o.op = .call { callee := .builtin .append, args := #[s, x], argTypes := #[42, 42] }) (base : Nat) (v : Value) (n : Nat) (xs : List Value) (hs : a.eval s = v) (hown : w.ownsRow base 22 1 v n xs)
    (b : Nat) (u : Value) (hx : a.eval x = .slice (some ⟨b, 0, none⟩) 1 1) (hc : w.cell? ⟨b, 0, none⟩ = some u) (h1 : u.oneCell' = true) (hsm : n ≤ 100000) (hbase : base ≤ w.heap.size)
    (h : ∀ v' w', w'.ownsRow base 22 1 v' (n + 1) (xs ++ [u]) → w.grownBy w' v.ownBlock → wpList Tryz.prog ops Q rest (a.put o.dst v') w') : wpList Tryz.prog ops Q (o :: rest) a w := by
  obtain ⟨i0, hi0, hz0, hz1, hz2⟩ := info_parts info_ints
  refine wpList_append_own w hgd s x _ ho base 22 i0 _ 1 24 Tryz.underlying42 hi0 hz0 hz1 hz2 rfl (by omega) v n xs hs hown ⟨b, 0, none⟩ 1 1 [u] hx rfl ?_ (fun y hy => by simp at hy; subst hy; exact h1) (by unfold maxLen; omega) (by omega) hbase ?_
  · intro j y hy
    rw [add_at]
    match j, hy with
    | 0, hy => injection hy with hy; subst hy; exact hc
  · intro v' w' h2 h3 _
    exact h v' w' h2 h3

theorem owns_none {w : World} {base n : Nat} {e : TypeId} {size : Nat} {v : Value} {xs : List Value} (h : w.ownsRow base e size v n xs) (hv : v.ownBlock = none) : n = 0 := by
  rcases h.2 with ⟨_, h0⟩ | ⟨g, _, _, rfl, _⟩
  · exact h0
  · cases hv

structure GrS (s0 : Nat) (w : World) (bb base : Nat) (iv : Value) (N : Nat) (V : Nat → Value) (n : Nat → Nat) (i : Nat) (U : Nat → Value) (ov : Value) : Prop where
  bk : BkI w bb base iv N V n mk
  ov : w.ownsRow s0 22 1 ov i ((List.range i).map U)
  uu : ∀ j, j < i → w.ownsRow base 3 1 (U j) (n j + 72) (rowOf ncells (lst (n j + 72) (mk j)))
  ud : ∀ j, j < i → (U j).ownBlock = (V j).ownBlock ∨ ∀ g, (U j).ownBlock = some g → s0 ≤ g
  vs : ∀ b, bkF bb iv N V b → b < s0
  sw : s0 ≤ w.heap.size

section
variable {s0 h1 : Nat} {w w' : World} {bb base : Nat} {iv : Value} {N : Nat} {V U : Nat → Value} {n : Nat → Nat} {i : Nat} {ov lv : Value}

theorem GrS.below (h : GrS s0 w bb base iv N V n i U ov) (hB : Below w.heap.size w w') : GrS s0 w' bb base iv N V n i U ov where
  bk := h.bk.below hB
  ov := (Fr.of_all (S := fun _ => False) hB).owns h.ov (fun _ _ h => h)
  uu := fun j hj => (Fr.of_all (S := fun _ => False) hB).owns (h.uu j hj) (fun _ _ h => h)
  ud := h.ud
  vs := h.vs
  sw := Nat.le_trans h.sw hB.size

theorem GrS.app (h : GrS s0 w bb base iv N V n i U ov) (hi : i < N) {m b2 : Nat} {xs : List Value} (hl : w.ownsRow b2 3 1 lv m xs) (hm : n i ≤ m) (hf : lv.ownBlock = (V i).ownBlock ∨ ∀ g, lv.ownBlock = some g → h1 ≤ g)
    (hu : ∀ j, j < i → ∀ g, (U j).ownBlock = some g → g < h1) (hs : s0 ≤ h1) (happ : AppI w w' lv m) (hgr : w.grownBy w' lv.ownBlock) : GrS s0 w' bb base iv N V n i U ov := by
  have hfr : Fr (fun b => lv.ownBlock = some b) w w' := Fr.of_grown hgr (fun _ _ h => h)
  have hV : ∀ a g, a < N → a ≠ i → (V a).ownBlock = some g → lv.ownBlock ≠ some g := fun a g ha hne hg hlg => by
    rcases hf with e | e
    · exact h.bk.kd a i g ha hi hne hg (by rw [← e]; exact hlg)
    · have := e g hlg
      have := h.vs g (.inr (.inr ⟨a, ha, hg⟩))
      omega
  refine ⟨⟨?_, ?_, ?_, h.bk.kd, h.bk.ib, h.bk.kb⟩, ?_, ?_, h.ud, h.vs, Nat.le_trans h.sw hgr.size⟩
  · refine (hfr.cell (p := ⟨bb, 2, none⟩) (cell_lt h.bk.c2) (fun e => ?_)).trans h.bk.c2
    have e : lv.ownBlock = some bb := e
    rcases hf with e2 | e2
    · exact h.bk.kb i hi (by rw [← e2]; exact e)
    · have := e2 bb e
      have := h.vs bb (.inl rfl)
      omega
  · exact hfr.owns h.bk.ri (fun g hg e => owns_apart h.bk.ri hl (by decide) hg e)
  · intro a ha
    refine happ base (V a) (n a) _ (fun e => ?_) (h.bk.kk a ha)
    by_cases hai : a = i
    · rw [hai]; exact hm
    · cases hva : (V a).ownBlock with
      | none => rw [owns_none (h.bk.kk a ha) hva]; omega
      | some g => exact absurd (e.symm.trans hva) (hV a g ha hai hva)
  · exact hfr.owns h.ov (fun g hg e => owns_apart h.ov hl (by decide) hg e)
  · intro j hj
    refine happ base (U j) (n j + 72) _ (fun e => ?_) (h.uu j hj)
    exfalso
    cases hva : (U j).ownBlock with
    | none => have := owns_none (h.uu j hj) hva; omega
    | some g =>
      have hlg : lv.ownBlock = some g := e.symm.trans hva
      rcases hf with e2 | e2
      · have hvi : (V i).ownBlock = some g := e2.symm.trans hlg
        rcases h.ud j hj with e3 | e3
        · exact h.bk.kd j i g (by omega) hi (by omega) (e3.symm.trans hva) hvi
        · have := e3 g hva
          have := h.vs g (.inr (.inr ⟨i, hi, hvi⟩))
          omega
      · have := e2 g hlg
        have := hu j hj g hva
        omega

theorem range_map_succ (k : Nat) (U : Nat → Value) (u : Value) : (List.range (k + 1)).map (fun j => if j = k then u else U j) = (List.range k).map U ++ [u] := by
  rw [List.range_succ, List.map_append]
  congr 1
  · exact List.map_congr_left (fun j hj => by have := List.mem_range.1 hj; rw [if_neg (by omega)])
  · simp

theorem GrS.more (h : GrS s0 w bb base iv N V n i U ov) (hi : i < N) (hl : w.ownsRow base 3 1 lv (n i + 72) (rowOf ncells (lst (n i + 72) (Go.Proofs.YtedcpckocedcoaaGreat.mk i)))) (hf : lv.ownBlock = (V i).ownBlock ∨ ∀ g, lv.ownBlock = some g → h1 ≤ g) (hs : s0 ≤ h1)
    {ov' : Value} (ho : w'.ownsRow s0 22 1 ov' (i + 1) ((List.range i).map U ++ [lv])) (hgr : w.grownBy w' ov.ownBlock) : GrS s0 w' bb base iv N V n (i + 1) (fun j => if j = i then lv else U j) ov' := by
  have hfr : Fr (fun b => ov.ownBlock = some b) w w' := Fr.of_grown hgr (fun _ _ h => h)
  have hlow : ∀ g, ov.ownBlock = some g → s0 ≤ g := fun g hg => (h.ov.lt g hg).1
  refine ⟨h.bk.keep hfr (fun b hb e => by have := h.vs b hb; have := hlow b e; omega), by rw [range_map_succ]; exact ho, ?_, ?_, h.vs, Nat.le_trans h.sw hgr.size⟩
  · intro j hj
    by_cases e : j = i
    · subst e
      simp only [if_true]
      exact hfr.owns hl (fun g hg e => owns_apart hl h.ov (by decide) hg e)
    · rw [if_neg e]
      exact hfr.owns (h.uu j (by omega)) (fun g hg e => owns_apart (h.uu j (by omega)) h.ov (by decide) hg e)
  · intro j hj
    by_cases e : j = i
    · subst e
      simp only [if_true]
      rcases hf with e | e
      · exact .inl e
      · exact .inr (fun g hg => Nat.le_trans hs (e g hg))
    · rw [if_neg e]
      exact h.ud j (by omega)
end

set_option maxHeartbeats 8000000 in
set_option maxRecDepth 100000 in
theorem grow_ints (bb base : Nat) (iv : Value) (N : Nat) (V : Nat → Value) (n : Nat → Nat) (w : World) (h : BkI w bb base iv N V n mk) (hN : N ≤ 250) (hn : ∀ i, i < N → n i ≤ 10000) (hb : base ≤ w.heap.size) :
    Calls Tryz.prog 75 #[.pointer (some ⟨bb, 0, none⟩)] w fun e w' => ∃ uv U, e = .returned uv ∧ GrS w.heap.size w' bb base iv N V n N U uv ∧ Fr (kkF N V) w w' := by
  have H := Lib.hid h
  have HN := Lib.hid hn
  have hlt0 := h.lt
  have HLT := Lib.hid hlt0
  obtain ⟨ip, ic, hiv⟩ := owns_form h.ri
  subst hiv
  clear h hn hlt0
  go_enter Tryz.func75, Tryz.ntmps75
  go_wp2
  go_loopw [3, 4] (fun ov v wr => ∃ i : Nat, i ≤ N ∧ v = .int .i64 i ∧ ∃ U, Hid (GrS w.heap.size wr bb base (.slice ip N ic) N V n i U ov) ∧ Hid (Fr (kkF N V) w wr)) (fun _ v _ => N - (intOf v).toNat)
  case atStart => exact ⟨0, Nat.zero_le _, rfl, fun _ => .slice none 0 0, Lib.hid ⟨H.out, World.ownsRow_nil _ _ _ _, fun j hj => by omega, fun j hj => by omega, HLT.out, Nat.le_refl _⟩, Lib.hid (Fr.refl _ _)⟩
  case round =>
    obtain ⟨i, hi, rfl, U, HG, HF⟩ := hrel
    have c2 := HG.out.bk.c2
    by_cases hlt : i < N
    · have hltI : (i : Int) < (N : Int) := by omega
      obtain ⟨g, c, e1, d2⟩ := row_at HG.out.bk.ri hlt
      injection e1 with e1 _ e3
      subst e1 e3
      have hni := HN.out i hlt
      have hko := HG.out.bk.kk i hlt
      have HU1 : Hid (∀ j, j < i → ∀ g, (U j).ownBlock = some g → g < wr.heap.size) := Lib.hid (fun j hj g hg => ((HG.out.uu j hj).lt g hg).2)
      obtain ⟨h1, hh1⟩ : ∃ h1, h1 = wr.heap.size := ⟨_, rfl⟩
      rw [← hh1] at HU1
      have HS1 : Hid (w.heap.size ≤ h1) := Lib.hid (by rw [hh1]; exact HG.out.sw)
      have HWR : Hid (h1 ≤ wr.heap.size) := Lib.hid (by rw [hh1]; exact Nat.le_refl _)
      have HKO : Hid (wr.ownsRow base 3 1 (V i) (n i + 0) (rowOf ncells (lst (n i + 0) (mk i)))) := Lib.hid hko
      clear hko hh1
      go_wp2
      go_loopw [5, 6] (fun lv v wj => ∃ t : Nat, t ≤ 12 ∧ v = .int .i64 t ∧ Hid (GrS w.heap.size wj bb base (.slice (some ⟨g, 0, none⟩) N ic) N V n i U u3) ∧ Hid (Fr (kkF N V) w wj) ∧ Hid (wj.ownsRow base 3 1 lv (n i + t) (rowOf ncells (lst (n i + t) (mk i)))) ∧ Hid (lv.ownBlock = (V i).ownBlock ∨ ∀ g, lv.ownBlock = some g → h1 ≤ g) ∧ Hid (h1 ≤ wj.heap.size)) (fun _ v _ => 12 - (intOf v).toNat)
      case atStart => exact ⟨0, by omega, rfl, HG, HF, HKO, Lib.hid (.inl rfl), HWR⟩
      case round =>
        obtain ⟨t, ht, rfl, HGJ, HFJ, HOJ, HLJ, HSJ⟩ := hrel
        by_cases hlt2 : t < 12
        · have hltT : (t : Int) < 12 := by omega
          obtain ⟨m, hm⟩ : ∃ m, m = n i + t := ⟨_, rfl⟩
          rw [← hm] at HOJ
          have hmb : m ≤ 10012 := by omega
          have HM := Lib.hid hm
          clear hm
          obtain ⟨lp, lc, hlv⟩ := owns_form HOJ.out
          subst hlv
          have HMK : Hid (Calls Tryz.prog 126 #[.int .i64 i, .int .i64 m, .int .i64 1] wr fun e w' => ∃ v, e = .returned v ∧ w'.ownsRow wr.heap.size 3 1 v 1 (rowOf ncells (lst 1 (fun k => mk i (m + k)))) ∧ Below wr.heap.size wr w') := Lib.hid (mark_ints i m 1 wr (by omega) (by omega) (by omega))
          go_wp2_with fail
          refine HMK.out.mono ?_
          rintro e w2 ⟨mv, rfl, hom, hb2⟩
          obtain ⟨mp, mc, hmv⟩ := owns_form hom
          subst hmv
          have HRD := Lib.hid (RdI.of_own hom (lst_length 1 _))
          have HO2 := Lib.hid ((Fr.of_all (S := fun _ => False) hb2).owns HOJ.out (fun _ _ h => h))
          have HG2 := Lib.hid (HGJ.out.below hb2)
          have HF2 : Hid (Fr (kkF N V) w w2) := Lib.hid (Fr.trans HFJ.out (Fr.of_all (S := kkF N V) hb2) (fun _ h _ => h))
          have HS2 : Hid (h1 ≤ w2.heap.size) := Lib.hid (Nat.le_trans HSJ.out hb2.size)
          clear hom hb2 HMK
          go_wp2_with (at_builtin; refine append_heads rfl _ _ rfl base (.slice lp m lc) m _ rfl HO2.out mp 1 mc _ rfl HRD.out (by omega) (by omega) (by have := HS2.out; have := HS1.out; omega) ?_; intro g3 c3 w3 hown3 hgr3 happ3 hat3)
          have HG3 := Lib.hid (HG2.out.app hlt HO2.out (by have := HM.out; omega) HLJ.out HU1.out HS1.out happ3 hgr3)
          have HO3 : Hid (w3.ownsRow base 3 1 (.slice (some ⟨g3, 0, none⟩) (m + 1) c3) (n i + (t + 1)) (rowOf ncells (lst (n i + (t + 1)) (mk i)))) := Lib.hid (by
            rw [show n i + (t + 1) = m + 1 by have := HM.out; omega, lst_add m 1, rowOf_append]
            exact hown3)
          have HL3 : Hid ((Value.slice (some ⟨g3, 0, none⟩) (m + 1) c3).ownBlock = (V i).ownBlock ∨ ∀ g, (Value.slice (some ⟨g3, 0, none⟩) (m + 1) c3).ownBlock = some g → h1 ≤ g) := Lib.hid (by
            rcases hat3 with e | e
            · rcases HLJ.out with e2 | e2
              · exact .inl (e.symm.trans e2)
              · exact .inr (fun g hg => e2 g (e.trans hg))
            · refine .inr (fun g hg => ?_)
              simp only [Value.ownBlock, Option.some.injEq] at hg
              have := HS2.out
              omega)
          have HF3 : Hid (Fr (kkF N V) w w3) := Lib.hid (Fr.trans HF2.out (Fr.of_grown hgr3 (S := fun b => (Value.slice lp m lc).ownBlock = some b) (fun _ _ h => h)) (fun b hb hlt9 => by
            rcases HLJ.out with e2 | e2
            · exact ⟨i, hlt, e2.symm.trans hb⟩
            · have := e2 b hb
              have := HS1.out
              omega))
          have HS3 : Hid (h1 ≤ w3.heap.size) := Lib.hid (Nat.le_trans HS2.out hgr3.size)
          clear hown3 hgr3 happ3 hat3
          go_wp2
          go_roundw
          case rel => exact ⟨t + 1, by omega, by simp, HG3, HF3, HO3, HL3, HS3⟩
          case measure => simp [intOf]; omega
        · obtain rfl : t = 12 := by omega
          have hltT : ¬ (12 : Int) < 12 := by omega
          obtain ⟨m, hm⟩ : ∃ m, m = n i + 12 := ⟨_, rfl⟩
          rw [← hm] at HOJ
          have hmb : m ≤ 10012 := by omega
          have HM := Lib.hid hm
          clear hm
          obtain ⟨lp, lc, hlv⟩ := owns_form HOJ.out
          subst hlv
          have HMK : Hid (Calls Tryz.prog 126 #[.int .i64 i, .int .i64 m, .int .i64 60] wr fun e w' => ∃ v, e = .returned v ∧ w'.ownsRow wr.heap.size 3 1 v 60 (rowOf ncells (lst 60 (fun k => mk i (m + k)))) ∧ Below wr.heap.size wr w') := Lib.hid (mark_ints i m 60 wr (by omega) (by omega) (by omega))
          go_wp2_with fail
          refine HMK.out.mono ?_
          rintro e w2 ⟨mv, rfl, hom, hb2⟩
          obtain ⟨mp, mc, hmv⟩ := owns_form hom
          subst hmv
          have HRD := Lib.hid (RdI.of_own hom (lst_length 60 _))
          have HO2 := Lib.hid ((Fr.of_all (S := fun _ => False) hb2).owns HOJ.out (fun _ _ h => h))
          have HG2 := Lib.hid (HGJ.out.below hb2)
          have HF2 : Hid (Fr (kkF N V) w w2) := Lib.hid (Fr.trans HFJ.out (Fr.of_all (S := kkF N V) hb2) (fun _ h _ => h))
          have HS2 : Hid (h1 ≤ w2.heap.size) := Lib.hid (Nat.le_trans HSJ.out hb2.size)
          clear hom hb2 HMK
          go_wp2_with (first
            | (at_builtin; refine append_heads rfl _ _ rfl base (.slice lp m lc) m _ rfl HO2.out mp 60 mc _ rfl HRD.out (by omega) (by omega) (by have := HS2.out; have := HS1.out; omega) ?_; intro g3 c3 w3 hown3 hgr3 happ3 hat3
               have HG3 := Lib.hid (HG2.out.app hlt HO2.out (by have := HM.out; omega) HLJ.out HU1.out HS1.out happ3 hgr3)
               have HO3 : Hid (w3.ownsRow base 3 1 (.slice (some ⟨g3, 0, none⟩) (m + 60) c3) (n i + 72) (rowOf ncells (lst (n i + 72) (mk i)))) := Lib.hid (by
                 rw [show n i + 72 = m + 60 by have := HM.out; omega, lst_add m 60, rowOf_append]
                 exact hown3)
               have HL3 : Hid ((Value.slice (some ⟨g3, 0, none⟩) (m + 60) c3).ownBlock = (V i).ownBlock ∨ ∀ g, (Value.slice (some ⟨g3, 0, none⟩) (m + 60) c3).ownBlock = some g → h1 ≤ g) := Lib.hid (by
                 rcases hat3 with e | e
                 · rcases HLJ.out with e2 | e2
                   · exact .inl (e.symm.trans e2)
                   · exact .inr (fun g hg => e2 g (e.trans hg))
                 · refine .inr (fun g hg => ?_)
                   simp only [Value.ownBlock, Option.some.injEq] at hg
                   have := HS2.out
                   omega)
               have HF3 : Hid (Fr (kkF N V) w w3) := Lib.hid (Fr.trans HF2.out (Fr.of_grown hgr3 (S := fun b => (Value.slice lp m lc).ownBlock = some b) (fun _ _ h => h)) (fun b hb hlt9 => by
                 rcases HLJ.out with e2 | e2
                 · exact ⟨i, hlt, e2.symm.trans hb⟩
                 · have := e2 b hb
                   have := HS1.out
                   omega))
               have HS3 : Hid (h1 ≤ w3.heap.size) := Lib.hid (Nat.le_trans HS2.out hgr3.size)
               clear hown3 hgr3 happ3 hat3)
            | (at_builtin; refine append_slice rfl _ _ rfl w.heap.size u3 i ((List.range i).map U) rfl (HG3.out.ov.alloc _) w3.heap.size (.slice (some ⟨g3, 0, none⟩) (m + 60) c3) rfl (by have e := new_cells w3 [.slice (some ⟨g3, 0, none⟩) (m + 60) c3] 22 0 _ rfl; rw [add_at] at e; exact e) rfl (by omega) (by have := HS3.out; have := HS1.out; simp; omega) ?_; intro ov4 w4 hown4 hgr4
               have HG4 := Lib.hid ((HG3.out.below ((Below.refl w3.heap.size w3).alloc (Nat.le_refl _) (.cells #[.slice (some ⟨g3, 0, none⟩) (m + 60) c3] 22))).more hlt (HO3.out.alloc _) HL3.out HS1.out hown4 hgr4)
               have HF4 : Hid (Fr (kkF N V) w w4) := Lib.hid (Fr.trans (HF3.out.alloc (.cells #[.slice (some ⟨g3, 0, none⟩) (m + 60) c3] 22)) (Fr.of_grown hgr4 (S := fun b => u3.ownBlock = some b) (fun _ _ h => h)) (fun b hb hlt9 => by
                 have := (HG3.out.ov.lt b hb).1
                 omega))
               clear hown4 hgr4))
          go_wp2
          go_roundw
          case rel => exact ⟨i + 1, by omega, by simp, _, HG4, HF4⟩
          case measure => simp [intOf]; omega
    · obtain rfl : i = N := by omega
      have hltI : ¬ (i : Int) < (i : Int) := by omega
      go_wp2
      go_ret
      exact ⟨_, rfl, ⟨U, HG.out⟩, HF.out⟩
end Go.Proofs.YtedcpckocedcoaaGreat
