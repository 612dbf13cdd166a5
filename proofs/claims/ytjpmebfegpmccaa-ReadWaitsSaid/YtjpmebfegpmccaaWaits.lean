/- arboretumlaw21.ReadWaits returns true, whatever its arguments; nothing that was there is changed. -/
import Derived.Test.YtjpmebfegpmccaaRAlive
import Derived.Test.YtjpmebfegpmccaaWaitsL
import Derived.Test.YtjpmebfegpmccaaReg
import Derived.Deep.QuietTactic
import Derived.BigQuiet
namespace Go.Proofs.Ytjpmebfegpmccaa
open Go.RowKit

def WaitRel (zs : List Rd) (w : World) (i : Nat) (wr : World) : Prop :=
  ∃ v l, QueueI w.heap.size w.heap.size v l i wr ∧ l.Perm (rl zs i) ∧ Below w.heap.size w wr

/-- One read more is added. -/
theorem add_one {w wr : World} {zs : List Rd} {i : Nat} {v : Value} {l : List Wt} (hq : QueueI w.heap.size w.heap.size v l i wr) (hp : l.Perm (rl zs i)) (hb : Below w.heap.size w wr) (hi : i ≤ 100) (x1 x2 : Int) (hx : (HL.el zs i).2.1 = x1 ∧ (HL.el zs i).2.2 = x2) (o : Obj) :
    Calls Try.prog 6 #[.pointer (some ⟨w.heap.size, 0, none⟩), .slice (some ⟨wr.heap.size + 1, 0, none⟩) 1 1] ((wr.alloc o).alloc (.cells #[.int .i64 i, .int .i64 x1, .int .i64 x2] 25)) fun e w' =>
      e = .returned (.tuple #[]) ∧ WaitRel zs w (i + 1) w' ∧ Fr (queueF w.heap.size v) ((wr.alloc o).alloc (.cells #[.int .i64 i, .int .i64 x1, .int .i64 x2] 25)) w' := by
  have hA : Fr (fun _ => False) wr ((wr.alloc o).alloc (.cells #[.int .i64 i, .int .i64 x1, .int .i64 x2] 25)) := ((Fr.refl _ wr).alloc _).alloc _
  have hk := hq.keep hA (fun _ _ h => h)
  have hr : RdG rcells ((wr.alloc o).alloc (.cells #[.int .i64 i, .int .i64 x1, .int .i64 x2] 25)) ((wr.alloc o).alloc (.cells #[.int .i64 i, .int .i64 x1, .int .i64 x2] 25)).heap.size (some ⟨wr.heap.size + 1, 0, none⟩) 1 [((i : Int), x1, x2)] := by
    have := RdG.fresh (f := rcells) (wr.alloc o) [((i : Int), x1, x2)] 25
    have e : (wr.alloc o).heap.size = wr.heap.size + 1 := by simp
    rw [e] at this
    exact RdG.more this (by simp)
  have hl : l.length = i := by rw [hp.length_eq, rl_length]
  refine (queue_add w.heap.size w.heap.size v l i [((i : Int), x1, x2)] _ 1 1 _ hk hr (fun b o' e _ hs => ?_) (by omega) (by omega) (by omega)).mono ?_
  · injection e with e
    injection e with e _
    have := hq.lt _ hs
    omega
  · rintro e w2 ⟨he, v2, l2, hq2, hp2, hF, _⟩
    refine ⟨he, ⟨v2, l2, by simpa using hq2, ?_, hb.trans ((hA.below hb.size (fun _ h => h.elim)).trans (hF.below (by have := hb.size; simp; omega) (hq.ge (Nat.le_refl _))))⟩, hF⟩
    rw [rl_succ, hx.1, hx.2]
    refine hp2.trans (List.Perm.append hp ?_)
    have : numbered [((i : Int), x1, x2)] i 1 = [((i : Int), x1, x2, (i : Int) + 1)] := by
      simp only [numbered, List.range_one, List.map_cons, List.map_nil, wt, HL.el, List.getD_cons_zero]
      rw [show (i : Int) + 1 + ((0 : Nat) : Int) = (i : Int) + 1 by omega]
    rw [this]

set_option maxHeartbeats 8000000 in
set_option maxRecDepth 100000 in
theorem readWaits_walk (p : Option Addr) (n c : Nat) (zs : List Rd) (a b : Int) (w : World) (h : RdG rcells w w.heap.size p n zs) :
    Calls Try.prog 4 #[.slice p n c, .int .i64 a, .int .i64 b] w fun e w' => e = .returned (.bool true) ∧ Below w.heap.size w w' := by
  by_cases hn : 60 < n
  · clear h
    go_enter Try.func4, Try.ntmps4
    go_wp2_with (go_at_call 7; refine (alive_true _).mono ?_; rintro e w' ⟨rfl, hb⟩)
    go_ret
    exact ⟨rfl, hb⟩
  · have hn' : n ≤ 60 := by omega
    clear hn
    have HZ := Lib.hid h
    clear h
    go_enter Try.func4, Try.ntmps4
    go_wp2_with fail
    refine (queue_new _).mono ?_
    rintro e w1 ⟨rfl, hQ, hb⟩
    have HST : Hid (WaitRel zs w 0 w1) := ⟨_, [], hQ, by simp [rl], hb⟩
    clear hQ hb
    go_wp2
    go_loopw [8, 9, 10] (fun nv iv _ wr => ∃ i : Nat, i ≤ n ∧ iv = .int .i64 i ∧ nv = .int .i64 (cntR zs a b i : Nat) ∧ WaitRel zs w i wr) (fun _ iv _ _ => n - (intOf iv).toNat)
    case atStart => exact ⟨0, Nat.zero_le _, rfl, rfl, HST.out⟩
    case round =>
      clear HST
      obtain ⟨i, hi, rfl, rfl, v, l, hQ, hp, hb⟩ := hrel
      have hcn := cntR_le zs a b i
      by_cases hlt : i < n
      · obtain ⟨b0, o0, e, hbl, q0, q1, q2⟩ := (HZ.out.below hb).read i hlt
        subst e
        have HADD := Lib.hid (fun o => add_one hQ hp hb (by omega) (HL.el zs i).2.1 (HL.el zs i).2.2 ⟨rfl, rfl⟩ o)
        have HCS := Lib.hid (cntR_succ zs a b i)
        have HLT := Lib.hid hQ.lt
        have hbs := hb.size
        generalize HL.el zs i = x at *
        obtain ⟨x0, x1, x2⟩ := x
        clear hQ hp hb
        generalize hN : cntR zs a b i = N at *
        have HN := Lib.hid hN; clear hN
        go_wp2_with fail
        refine (HADD.out _).mono ?_
        rintro e w2 ⟨rfl, hR, hF⟩
        have hnot : ¬ queueF w.heap.size v wr.heap.size := fun h => by have := HLT.out _ h; omega
        have d1 : w2.cell? ⟨wr.heap.size, 1, none⟩ = some (.int .i64 x1) := by rw [hF.cell (p := ⟨wr.heap.size, 1, none⟩) (by simp; omega) hnot]; go_simp
        have d2 : w2.cell? ⟨wr.heap.size, 2, none⟩ = some (.int .i64 x2) := by rw [hF.cell (p := ⟨wr.heap.size, 2, none⟩) (by simp; omega) hnot]; go_simp
        have HR := Lib.hid hR
        clear hR hF hnot
        by_cases h2 : x2 ≤ a
        · by_cases h1 : x1 ≤ b
          · go_wp2
            go_roundw
            case rel => exact ⟨i + 1, by omega, by go_num, by rw [HCS.out, if_pos ⟨h2, h1⟩]; go_num, HR.out⟩
            case measure => simp [intOf]; omega
          · go_wp2
            go_roundw
            case rel => exact ⟨i + 1, by omega, by go_num, by rw [HCS.out, if_neg (by omega)]; go_num, HR.out⟩
            case measure => simp [intOf]; omega
        · go_wp2
          go_roundw
          case rel => exact ⟨i + 1, by omega, by go_num, by rw [HCS.out, if_neg (by omega)]; go_num, HR.out⟩
          case measure => simp [intOf]; omega
      · have : i = n := by omega
        subst this
        have HRD := Lib.hid (queue_ready _ _ v l i a b wr hQ)
        have HP := Lib.hid hp
        have HB := Lib.hid hb
        have HGE := Lib.hid (hQ.ge (Nat.le_refl _))
        have hqlt := hQ.lt w.heap.size (.inl rfl)
        clear hQ hp hb
        generalize hN : cntR zs a b i = N at *
        have HN := Lib.hid hN; clear hN
        go_wp2_with fail
        refine HRD.out.mono ?_
        rintro e w3 ⟨ov, T, v3, l3, rfl, hpT, hs, ho, hq3, hl3, hF3, hge3⟩
        have hpT' := hpT.trans HP.out
        have hAl := told_length hpT' a b
        have hBl := left_length hpT' a b
        rw [HN.out] at hAl hBl
        have hb3 : Below w.heap.size w w3 := HB.out.trans (hF3.below HB.out.size HGE.out)
        rw [hAl] at ho
        have hlenA : (told T a b).length = N := by unfold told; rw [List.length_map, hAl]
        obtain ⟨op, oc, hov⟩ := owns_slice ho
        have hcells : ∀ k, k < N → ∃ g, op = some ⟨g, 0, none⟩ ∧ w3.cell? ⟨g, k, none⟩ = some (.int .i64 (HL.el (told T a b) k)) := by
          intro k hk
          obtain ⟨g, cap, hv', _, _, _⟩ := owns_len ho (by omega)
          rw [hov] at hv' ho
          injection hv' with e1 _ e3
          subst e1 e3
          refine ⟨g, rfl, ?_⟩
          rw [ho.cellAt k (by omega)]
          have r0 := rowOf_at ncells ncells_length (told T a b) k 0 (by omega) (by omega)
          rw [Nat.mul_one, Nat.add_zero] at r0
          exact r0
        have hat := fun k (hk : k < N) => told_at hpT' a b k (by omega)
        have hnd := told_nodup hpT' a b
        have HC := Lib.hid hcells
        have HAT := Lib.hid hat
        have HND := Lib.hid hnd
        have HLA := Lib.hid hlenA
        have HQ3 := Lib.hid hq3
        have HL3 := Lib.hid hl3
        have HB3 := Lib.hid hb3
        have HBL := Lib.hid hBl
        have HZ3 := Lib.hid (HZ.out.below hb3)
        subst hov
        clear hpT hpT' hs ho hq3 hl3 hF3 hge3 hAl hBl hb3 hlenA hcells hat hnd
        generalize hA : told T a b = A at *
        clear hA
        go_wp2
        go_loopw [12, 13, 6] (fun iv _ _ wr => ∃ (k m : Nat), k ≤ N ∧ iv = .int .i64 k ∧ wr = w3.drewN m) (fun iv _ _ _ => N - (intOf iv).toNat)
        case atStart => exact ⟨0, 0, Nat.zero_le _, rfl, rfl⟩
        case round =>
          obtain ⟨k, m, hk, rfl, rfl⟩ := hrel
          by_cases hkN : k < N
          · obtain ⟨g, e, hck⟩ := HC.out k hkN
            subst e
            obtain ⟨j, hj, hej, hra, hrb⟩ := HAT.out k hkN
            rw [hej] at hck
            obtain ⟨b0, o0, e, hbl, z0, z1, z2⟩ := HZ3.out.read j hj
            subst e
            have g1 : decide ((j : Int) < 0) = false := by rw [decide_eq_false_iff_not]; omega
            have g2 : decide ((i : Int) ≤ (j : Int)) = false := by rw [decide_eq_false_iff_not]; omega
            have g3 : ¬ a < (HL.el zs j).2.2 := by omega
            have g4 : ¬ b < (HL.el zs j).2.1 := by omega
            generalize HL.el zs j = x at *
            obtain ⟨x0, x1, x2⟩ := x
            go_wp2
            clear g1 g2 g3 g4 z0 z1 z2
            go_loopw [13, 6] (fun qv _ wr => ∃ (q m' : Nat), q ≤ k ∧ qv = .int .i64 q ∧ wr = w3.drewN m') (fun qv _ _ => k - (intOf qv).toNat)
            case atStart => exact ⟨0, m, Nat.zero_le _, rfl, rfl⟩
            case round =>
              obtain ⟨q, m', hq, rfl, rfl⟩ := hrel
              by_cases hqk : q < k
              · obtain ⟨g', e', hcq⟩ := HC.out q (by omega)
                obtain rfl : g = g' := by injection e' with e'; injection e' with e' _
                clear e'
                have hne : (HL.el A q == (j : Int)) = false := by
                  rw [beq_eq_false_iff_ne, ← hej]
                  exact nodup_el HND.out (by rw [HLA.out]; omega) (by rw [HLA.out]; omega) (by omega)
                generalize HL.el A q = y at *
                have HEJ := Lib.hid hej
                clear hej
                go_wp2
                go_quiet (fail)
                go_wp2
                go_roundw
                case rel => exact ⟨q + 1, _, by omega, by go_num, rfl⟩
                case measure => simp [intOf]; omega
              · have HEJ := Lib.hid hej
                clear hej
                go_wp2
                go_roundw
                case rel => exact ⟨k + 1, m', by omega, by go_num, rfl⟩
                case measure => simp [intOf]; omega
          · obtain rfl : k = N := by omega
            have HQK := Lib.hid (HQ3.out.keep ((Fr.refl (fun _ => False) w3).drewN m) (fun _ _ h => h))
            have HBK := Lib.hid (below_drewN HB3.out m)
            have hl3l : (l3.length : Int) = (i : Int) - (k : Int) := by
              have := HL3.out.length_eq
              rw [HBL.out] at this
              omega
            have HLL := Lib.hid hl3l
            clear hl3l HC HAT HND HLA HZ3 HZ HQ3 HB3 HBL HB HGE HP HRD
            obtain ⟨wk, hwk⟩ : ∃ wk, wk = w3.drewN m := ⟨_, rfl⟩
            rw [← hwk] at HQK HBK ⊢
            clear hwk
            have gN : ((k : Int) == (k : Int)) = true := by simp
            go_wp2_with fail
            refine (alive_true _).mono ?_
            rintro e w4 ⟨rfl, hb4⟩
            have HQ4 := Lib.hid (HQK.out.below hb4)
            have HB4 := Lib.hid (HBK.out.trans (hb4.mono HBK.out.size))
            clear hb4 HQK HBK
            go_wp2_with fail
            refine (queue_len _ _ _ _ _ _ HQ4.out).mono ?_
            rintro e w5 ⟨rfl, rfl⟩
            rw [HLL.out]
            have gL : (((i : Int) - (k : Int)) == ((i : Int) - (k : Int))) = true := by simp
            have HR4 := Lib.hid (queue_ready _ _ _ _ _ a b w4 HQ4.out)
            have HGE4 := Lib.hid (HQ4.out.ge (Nat.le_refl _))
            go_wp2_with fail
            refine HR4.out.mono ?_
            rintro e w6 ⟨ov6, T6, v6, l6, rfl, hp6, hs6, ho6, hq6, hl6, hF6, hge6⟩
            have hnone := again_none HL3.out hp6
            rw [hnone] at ho6
            obtain ⟨p6, c6, hov6⟩ := owns_slice ho6
            have hl6l : (l6.length : Int) = (i : Int) - (k : Int) := by
              have h1 := filter_split T6 (fun x => pickR a b (rdOf x))
              rw [hnone] at h1
              have h2 := hl6.length_eq
              have h3 := hp6.length_eq
              have h4 := HLL.out
              simp only [List.length_nil, Nat.zero_add] at h1
              omega
            have HB6 := Lib.hid (HB4.out.trans (hF6.below HB4.out.size HGE4.out))
            have HC6 := Lib.hid (queue_clear _ _ v6 l6 _ w6 hq6)
            have HGE6 := Lib.hid (hq6.ge (Nat.le_refl _))
            have HLL6 := Lib.hid hl6l
            subst hov6
            clear hp6 hs6 ho6 hq6 hl6 hF6 hge6 hnone hl6l
            go_wp2_with fail
            refine HC6.out.mono ?_
            rintro e w7 ⟨ov7, T7, v7, l7, rfl, hp7, hs7, ho7, hq7, hl7, hF7, hge7⟩
            rw [filter_all] at ho7
            obtain ⟨p7, c7, hov7⟩ := owns_slice ho7
            have hT7 : (T7.length : Int) = (i : Int) - (k : Int) := by rw [hp7.length_eq]; exact HLL6.out
            have HB7 := Lib.hid (HB6.out.trans (hF7.below HB6.out.size HGE6.out))
            have HT7 := Lib.hid hT7
            subst hov7
            clear hp7 hs7 ho7 hq7 hl7 hF7 hge7 hT7
            generalize T7.length = t7 at *
            have gT : ((t7 : Int) == ((i : Int) - (k : Int))) = true := by rw [beq_iff_eq]; exact HT7.out
            go_wp2
            go_ret
            exact ⟨rfl, HB7.out⟩
end Go.Proofs.Ytjpmebfegpmccaa
