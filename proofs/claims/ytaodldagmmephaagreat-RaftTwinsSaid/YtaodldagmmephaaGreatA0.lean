/- Merged texts: LgO LgP LgQ LgS LgS2 Same. -/
import Derived.Test.YtaodldagmmephaaGreatA4
import Derived.Deep.DeepCutAuto
import Derived.Test.YtaodldagmmephaaGreatA1
import Derived.Deep.QuietTactic
import Derived.BigQuiet
/- rlog: Merge's loop. -/
namespace Go.Proofs.YtaodldagmmephaaGreat
open Go.RowKit
section
variable {xb base : Nat} {b t : Int} {v : Value} {L : List En} {w : World}

set_option maxHeartbeats 2000000 in
set_option maxRecDepth 100000 in
theorem lg_merge_at (prev tm keep : Int) (p : Option Addr) (n c : Nat) (l : List En) (h : Lg xb base b t v L w) (hp : prev ≤ 4611686018427387904) (hr : RdG ecells w w.heap.size p n l) (hn : n ≤ 10000) (hq : termS b t L prev = some tm) (hf : followB prev tm l = true) (hm : mgo b t keep L 0 0 l = none ∨ mgo b t keep L 0 0 l = some 0) :
    Calls Tryz.prog 102 #[.pointer (some ⟨xb, 0, none⟩), .int .i64 prev, .int .i64 tm, .int .i64 keep, .slice p n c] w fun e w' => e = .returned (.tuple #[.int .i64 0, .bool (mgo b t keep L 0 0 l).isSome]) ∧ Below w.heap.size w w' := by
  have HT := Lib.hid (lg_term prev h (by omega))
  rw [hq] at HT
  unfold termV at HT
  dsimp only at HT
  have h0 : 0 ≤ prev := by have := (term_has hq).1; have := h.lo; omega
  have HTE := Lib.hid (fun (i : Int) (hi : i ≤ 9223372036854775807) W (hW : Below w.heap.size w W) => lg_term i (h.below hW) hi)
  have HIX := Lib.hid (fun k (hk : k < n) => follow_ix l prev tm k hf (by rw [hr.1]; exact hk))
  have HR0 := Lib.hid hr
  have HZ := Lib.hid hr.1
  obtain ⟨ans, hans⟩ : ∃ ans, ans = mgo b t keep L 0 0 l := ⟨_, rfl⟩
  have HA0 : Hid (ans = mgo b t keep L 0 0 (l.drop 0)) := Lib.hid hans
  rw [← hans] at hm ⊢
  clear hans
  have HFO := Lib.hid (fun W (hW : Below w.heap.size w W) => follow_ens prev tm p n c l W ((hr.below hW).more hW.size) h0 hp (by omega))
  rw [hf] at HFO
  clear h hr hq hf
  go_enter Tryz.func102, Tryz.ntmps102
  go_wp2_with fail
  with_reducible refine HT.out.mono ?_
  rintro e w1 ⟨rfl, hb1⟩
  have HB1 := Lib.hid hb1
  have HF1 := Lib.hid (HFO.out w1 hb1)
  clear hb1 HFO
  go_wp2_with fail
  with_reducible refine HF1.out.mono ?_
  rintro e w2 ⟨rfl, hb2⟩
  have HB2 : Hid (Below w.heap.size w w2) := Lib.hid (HB1.out.trans (hb2.mono HB1.out.size))
  clear hb2 HF1 HT HB1
  go_wp2

  go_loopg [14, 41] n (fun gk fv kv wr => ∃ (k f : Nat), gk = n - k ∧ k ≤ n ∧ f ≤ k ∧ kv = .int .i64 k ∧ fv = .int .i64 f ∧ Hid (ans = mgo b t keep L k f (l.drop k) ∧ Below w.heap.size w wr))
  case atStart => exact ⟨0, 0, by omega, Nat.zero_le _, Nat.le_refl _, rfl, rfl, Lib.hid ⟨HA0.out, HB2.out⟩⟩
  case round =>
    clear HA0 HB2
    obtain ⟨k, f, hgk, hk, hfk, rfl, rfl, HR⟩ := hrel
    subst hgk
    by_cases hlt : k < n
    · have hltI : (k : Int) < (n : Int) := by omega
      obtain ⟨g, o, hp2, hg, x0, x1, x2, x3⟩ := ((HR0.out.below HR.out.2).more HR.out.2.size).en k hlt
      have HFD := Lib.hid (mgo_drop b t keep L f l k (by rw [HZ.out]; exact hlt))
      have HX := Lib.hid (HIX.out k hlt)
      subst hp2
      generalize HL.el l k = x at *
      obtain ⟨a1, a2, a3, a4⟩ := x
      simp only at x0 x1 x2 x3 HFD HX
      have HB := Lib.hid HR.out.2
      have hs := HR.out.2.size
      have HEN : Hid (∀ V, Below (wr.heap.size + 1) (wr.alloc (.cells #[.int .i64 a1, .int .i64 a2, .int .i64 a3, .string a4] 25)) V → V.cell? ⟨wr.heap.size, 0, none⟩ = some (.int .i64 a1) ∧ V.cell? ⟨wr.heap.size, 1, none⟩ = some (.int .i64 a2)) := Lib.hid (fun V hV => by
            have h := en_new wr a1 a2 a3 a4 V hV
            exact ⟨h.1, h.2.1⟩)
      have HBA : Hid (Below w.heap.size w (wr.alloc (.cells #[.int .i64 a1, .int .i64 a2, .int .i64 a3, .string a4] 25))) := Lib.hid (HB.out.alloc hs _)
      have HT1 := Lib.hid (HTE.out a1 (by rw [HX.out]; omega) _ HBA.out)
      go_wp2_with fail
      cases hq : termS b t L a1 with
      | none =>
        rw [hq] at HT1
        unfold termV at HT1
        dsimp only at HT1
        with_reducible refine HT1.out.mono ?_
        rintro e w4 ⟨rfl, hb4⟩
        have HB4 : Hid (Below w.heap.size w w4) := Lib.hid (HBA.out.trans (hb4.mono HBA.out.size))
        have r0 : w4.cell? ⟨wr.heap.size, 0, none⟩ = some (.int .i64 a1) := (HEN.out w4 (hb4.mono (by simp))).1
        have r1 : w4.cell? ⟨wr.heap.size, 1, none⟩ = some (.int .i64 a2) := (HEN.out w4 (hb4.mono (by simp))).2
        rw [hq] at HFD
        simp only [Option.isSome, Bool.false_eq_true, false_and, if_false, reduceCtorEq] at HFD
        by_cases hf0 : f = 0
        · subst hf0
          have HN : Hid (ans = mgo b t keep L (k + 1) (k + 1) (l.drop (k + 1))) := Lib.hid (by rw [HR.out.1, HFD.out]; simp)
          clear HT1 hq hb4
          go_wp2_with fail
          go_roundg (n - (k + 1))
          case measure => omega
          case rel => exact ⟨k + 1, k + 1, rfl, by omega, by omega, by go_num, by go_num, Lib.hid ⟨HN.out, HB4.out⟩⟩
        · have b1 : ((f : Int) == 0) = false := by simp [hf0]
          have HN : Hid (ans = mgo b t keep L (k + 1) f (l.drop (k + 1))) := Lib.hid (by rw [HR.out.1, HFD.out]; simp [hf0])
          clear HT1 hq hb4
          go_wp2_with fail
          go_roundg (n - (k + 1))
          case measure => omega
          case rel => exact ⟨k + 1, f, rfl, by omega, by omega, by go_num, rfl, Lib.hid ⟨HN.out, HB4.out⟩⟩
      | some tt =>
        rw [hq] at HT1
        unfold termV at HT1
        dsimp only at HT1
        with_reducible refine HT1.out.mono ?_
        rintro e w4 ⟨rfl, hb4⟩
        have HB4 : Hid (Below w.heap.size w w4) := Lib.hid (HBA.out.trans (hb4.mono HBA.out.size))
        have r0 : w4.cell? ⟨wr.heap.size, 0, none⟩ = some (.int .i64 a1) := (HEN.out w4 (hb4.mono (by simp))).1
        have r1 : w4.cell? ⟨wr.heap.size, 1, none⟩ = some (.int .i64 a2) := (HEN.out w4 (hb4.mono (by simp))).2
        rw [hq] at HFD
        by_cases he : tt = a2
        · subst he
          have HN : Hid (ans = mgo b t keep L (k + 1) f (l.drop (k + 1))) := Lib.hid (by rw [HR.out.1, HFD.out]; simp)
          clear HT1 hq hb4
          go_wp2_with fail
          go_roundg (n - (k + 1))
          case measure => omega
          case rel => exact ⟨k + 1, f, rfl, by omega, by omega, by go_num, rfl, Lib.hid ⟨HN.out, HB4.out⟩⟩
        · have b0 : (tt == a2) = false := by simp [he]
          by_cases hkp : a1 ≤ keep
          · have d0 : decide (a1 ≤ keep) = true := decide_eq_true hkp
            have HN : Hid (ans = none) := Lib.hid (by rw [HR.out.1, HFD.out]; simp [he, hkp])
            clear HT1 hq hb4 hm
            go_wp2_with fail
            go_ret2
            exact ⟨by rw [HN.out]; rfl, HB4.out⟩
          · have d0 : decide (a1 ≤ keep) = false := decide_eq_false hkp
            by_cases hf0 : f = 0
            · subst hf0
              have HN : Hid (ans = mgo b t keep L (k + 1) (k + 1) (l.drop (k + 1))) := Lib.hid (by rw [HR.out.1, HFD.out]; simp [he, hkp])
              clear HT1 hq hb4
              go_wp2_with fail
              go_roundg (n - (k + 1))
              case measure => omega
              case rel => exact ⟨k + 1, k + 1, rfl, by omega, by omega, by go_num, by go_num, Lib.hid ⟨HN.out, HB4.out⟩⟩
            · have b1 : ((f : Int) == 0) = false := by simp [hf0]
              have HN : Hid (ans = mgo b t keep L (k + 1) f (l.drop (k + 1))) := Lib.hid (by rw [HR.out.1, HFD.out]; simp [he, hkp, hf0])
              clear HT1 hq hb4
              go_wp2_with fail
              go_roundg (n - (k + 1))
              case measure => omega
              case rel => exact ⟨k + 1, f, rfl, by omega, by omega, by go_num, rfl, Lib.hid ⟨HN.out, HB4.out⟩⟩
    · have hfe : decide ((k : Int) < (n : Int)) = false := decide_eq_false (by omega)
      have e := HR.out.1
      rw [mgo_end b t keep L f l k (by rw [HZ.out]; omega)] at e
      have hf0 : f = 0 := by
        rcases hm with h | h <;> rw [e] at h
        · exact absurd h (by simp)
        · exact Option.some.inj h
      subst hf0
      have HB := Lib.hid HR.out.2
      have HE := Lib.hid e
      clear HR e hm
      go_wp2
      go_ret2
      exact ⟨by rw [HE.out]; rfl, HB.out⟩
end
end Go.Proofs.YtaodldagmmephaaGreat

/- rlog: where Merge's new entries begin, plain. -/
namespace Go.Proofs.YtaodldagmmephaaGreat
open Go.RowKit

theorem mgo_keep (b t keep : Int) (L : List En) : ∀ (r : List En) (i f g : Nat), mgo b t keep L i f r = some g → f ≠ 0 → g = f
  | [], _, _, _, h, _ => (Option.some.inj h).symm
  | e :: r, i, f, g, h, h0 => by
    unfold mgo at h
    rw [if_neg h0] at h
    by_cases h1 : termS b t L e.ix = some e.tm
    · rw [if_pos h1] at h
      exact mgo_keep b t keep L r _ _ _ h h0
    · rw [if_neg h1] at h
      by_cases h2 : (termS b t L e.ix).isSome ∧ e.ix ≤ keep
      · rw [if_pos h2] at h
        exact absurd h (by simp)
      · rw [if_neg h2] at h
        exact mgo_keep b t keep L r _ _ _ h h0

theorem mgo_first (b t keep : Int) (L : List En) (F : Nat) : ∀ (r : List En) (i : Nat), mgo b t keep L i 0 r = some (F + 1) → i ≤ F ∧ F < i + r.length ∧ (i < F → ∃ x, termS b t L (HL.el r (F - i - 1)).ix = some x)
  | [], _, h => absurd (Option.some.inj h) (by omega)
  | e :: r, i, h => by
    unfold mgo at h
    rw [if_pos rfl] at h
    by_cases h1 : termS b t L e.ix = some e.tm
    · rw [if_pos h1] at h
      obtain ⟨a1, a2, a3⟩ := mgo_first b t keep L F r (i + 1) h
      refine ⟨by omega, by simp only [List.length_cons]; omega, fun _ => ?_⟩
      by_cases h3 : F = i + 1
      · have e0 : F - i - 1 = 0 := by omega
        rw [e0]
        exact ⟨_, h1⟩
      · obtain ⟨x, hx⟩ := a3 (by omega)
        have e0 : F - i - 1 = (F - (i + 1) - 1) + 1 := by omega
        rw [e0]
        exact ⟨x, hx⟩
    · rw [if_neg h1] at h
      by_cases h2 : (termS b t L e.ix).isSome ∧ e.ix ≤ keep
      · rw [if_pos h2] at h
        exact absurd h (by simp)
      · rw [if_neg h2] at h
        have := mgo_keep b t keep L r _ _ _ h (by omega)
        refine ⟨by omega, by simp only [List.length_cons]; omega, fun h => by omega⟩

theorem mgo_place (b t keep : Int) (L : List En) (F : Nat) (prev tm : Int) (l : List En) (hq : termS b t L prev = some tm) (hf : followB prev tm l = true) (h : mgo b t keep L 0 0 l = some (F + 1)) :
    F < l.length ∧ (HL.el l F).ix = prev + (F : Int) + 1 ∧ b < (HL.el l F).ix ∧ (HL.el l F).ix - b - 1 ≤ (L.length : Int) := by
  obtain ⟨_, a2, a3⟩ := mgo_first b t keep L F l 0 h
  have hl : F < l.length := by omega
  have hx := follow_ix l prev tm F hf hl
  have h0 := term_has hq
  refine ⟨hl, hx, by omega, ?_⟩
  by_cases hF : F = 0
  · subst hF
    omega
  · obtain ⟨x, h1⟩ := a3 (by omega)
    have h2 := follow_ix l prev tm (F - 0 - 1) hf (by omega)
    have h3 := (term_has h1).2
    omega
end Go.Proofs.YtaodldagmmephaaGreat

/- rlog: Merge with new entries. -/
namespace Go.Proofs.YtaodldagmmephaaGreat
open Go.RowKit
section
variable {xb base : Nat} {b t : Int} {v : Value} {L : List En} {w : World}

set_option maxHeartbeats 2000000 in
set_option maxRecDepth 100000 in
theorem lg_merge_new (prev tm keep : Int) (p : Option Addr) (n c : Nat) (l : List En) (h : Lg xb base b t v L w) (hp : prev ≤ 4611686018427387904) (hr : RdG ecells w w.heap.size p n l) (hn : n ≤ 10000) (hnc : n ≤ c) (hq : termS b t L prev = some tm) (hf : followB prev tm l = true) (hnil : (∃ b o, p = some ⟨b, o, none⟩) ∨ p = none ∧ c = 0) (hd : ∀ i, i < n → (HL.el l i).da.size ≤ 2000000) (hfin : L.length + n ≤ 10000) (hap : ∀ g o, p = some ⟨g, o, none⟩ → g ≠ xb) (F : Nat) (hm : mgo b t keep L 0 0 l = some (F + 1)) :
    Calls Tryz.prog 102 #[.pointer (some ⟨xb, 0, none⟩), .int .i64 prev, .int .i64 tm, .int .i64 keep, .slice p n c] w fun e w' => e = .returned (.tuple #[.int .i64 (HL.el l F).ix, .bool true]) ∧ ∃ v', Lg xb base b t v' (L.take ((HL.el l F).ix - b - 1).toNat ++ l.drop F) w' ∧ Fr (lgF xb v) w w' ∧ (v'.ownBlock = v.ownBlock ∨ ∀ g, v'.ownBlock = some g → w.heap.size ≤ g) := by
  have HT := Lib.hid (lg_term prev h (by omega))
  rw [hq] at HT
  unfold termV at HT
  dsimp only at HT
  have h0 : 0 ≤ prev := by have := (term_has hq).1; have := h.lo; omega
  have HTE := Lib.hid (fun (i : Int) (hi : i ≤ 9223372036854775807) W (hW : Below w.heap.size w W) => lg_term i (h.below hW) hi)
  have HIX := Lib.hid (fun k (hk : k < n) => follow_ix l prev tm k hf (by rw [hr.1]; exact hk))
  have HR0 := Lib.hid hr
  have HZ := Lib.hid hr.1
  have HP := Lib.hid (mgo_place b t keep L F prev tm l hq hf hm)
  have H := Lib.hid h
  have hFn : F < n := by have := HP.out.1; have := hr.1; omega
  obtain ⟨gp, og, hps, -⟩ := hr.en F hFn
  have HAP := Lib.hid (hap gp og hps)
  subst hps
  clear hap
  obtain ⟨ans, hans⟩ : ∃ ans, ans = mgo b t keep L 0 0 l := ⟨_, rfl⟩
  have HA0 : Hid (ans = mgo b t keep L 0 0 (l.drop 0)) := Lib.hid hans
  rw [← hans] at hm
  clear hans
  have HFO := Lib.hid (fun W (hW : Below w.heap.size w W) => follow_ens prev tm _ n c l W ((hr.below hW).more hW.size) h0 hp (by omega))
  rw [hf] at HFO
  clear h hr hq hf
  go_enter Tryz.func102, Tryz.ntmps102
  go_wp2_with fail
  with_reducible refine HT.out.mono ?_
  rintro e w1 ⟨rfl, hb1⟩
  have HB1 := Lib.hid hb1
  have HF1 := Lib.hid (HFO.out w1 hb1)
  clear hb1 HFO
  go_wp2_with fail
  with_reducible refine HF1.out.mono ?_
  rintro e w2 ⟨rfl, hb2⟩
  have HB2 : Hid (Below w.heap.size w w2) := Lib.hid (HB1.out.trans (hb2.mono HB1.out.size))
  clear hb2 HF1 HT HB1
  go_wp2

  go_loopg [14, 41] n (fun gk fv kv wr => ∃ (k f : Nat), gk = n - k ∧ k ≤ n ∧ f ≤ k ∧ kv = .int .i64 k ∧ fv = .int .i64 f ∧ Hid (ans = mgo b t keep L k f (l.drop k) ∧ Below w.heap.size w wr))
  case atStart => exact ⟨0, 0, by omega, Nat.zero_le _, Nat.le_refl _, rfl, rfl, Lib.hid ⟨HA0.out, HB2.out⟩⟩
  case round =>
    clear HA0 HB2
    obtain ⟨k, f, hgk, hk, hfk, rfl, rfl, HR⟩ := hrel
    subst hgk
    by_cases hlt : k < n
    · have hltI : (k : Int) < (n : Int) := by omega
      obtain ⟨g, o, hp2, -, x0, x1, x2, x3⟩ := ((HR0.out.below HR.out.2).more HR.out.2.size).en k hlt
      have HFD := Lib.hid (mgo_drop b t keep L f l k (by rw [HZ.out]; exact hlt))
      have HX := Lib.hid (HIX.out k hlt)
      cases hp2
      obtain ⟨x, hx⟩ : ∃ x, x = HL.el l k := ⟨_, rfl⟩
      rw [← hx] at x0 x1 x2 x3 HFD HX
      clear hx
      obtain ⟨a1, a2, a3, a4⟩ := x
      simp only at x0 x1 x2 x3 HFD HX
      have HB := Lib.hid HR.out.2
      have hs := HR.out.2.size
      have HEN : Hid (∀ V, Below (wr.heap.size + 1) (wr.alloc (.cells #[.int .i64 a1, .int .i64 a2, .int .i64 a3, .string a4] 25)) V → V.cell? ⟨wr.heap.size, 0, none⟩ = some (.int .i64 a1) ∧ V.cell? ⟨wr.heap.size, 1, none⟩ = some (.int .i64 a2)) := Lib.hid (fun V hV => by
            have h := en_new wr a1 a2 a3 a4 V hV
            exact ⟨h.1, h.2.1⟩)
      have HBA : Hid (Below w.heap.size w (wr.alloc (.cells #[.int .i64 a1, .int .i64 a2, .int .i64 a3, .string a4] 25))) := Lib.hid (HB.out.alloc hs _)
      have HT1 := Lib.hid (HTE.out a1 (by rw [HX.out]; omega) _ HBA.out)
      go_wp2_with fail
      cases hq : termS b t L a1 with
      | none =>
        rw [hq] at HT1
        unfold termV at HT1
        dsimp only at HT1
        with_reducible refine HT1.out.mono ?_
        rintro e w4 ⟨rfl, hb4⟩
        have HB4 : Hid (Below w.heap.size w w4) := Lib.hid (HBA.out.trans (hb4.mono HBA.out.size))
        have r0 : w4.cell? ⟨wr.heap.size, 0, none⟩ = some (.int .i64 a1) := (HEN.out w4 (hb4.mono (by simp))).1
        have r1 : w4.cell? ⟨wr.heap.size, 1, none⟩ = some (.int .i64 a2) := (HEN.out w4 (hb4.mono (by simp))).2
        rw [hq] at HFD
        simp only [Option.isSome, Bool.false_eq_true, false_and, if_false, reduceCtorEq] at HFD
        by_cases hf0 : f = 0
        · subst hf0
          have HN : Hid (ans = mgo b t keep L (k + 1) (k + 1) (l.drop (k + 1))) := Lib.hid (by rw [HR.out.1, HFD.out]; simp)
          clear HT1 hq hb4
          go_wp2_with fail
          go_roundg (n - (k + 1))
          case measure => omega
          case rel => exact ⟨k + 1, k + 1, rfl, by omega, by omega, by go_num, by go_num, Lib.hid ⟨HN.out, HB4.out⟩⟩
        · have b1 : ((f : Int) == 0) = false := by simp [hf0]
          have HN : Hid (ans = mgo b t keep L (k + 1) f (l.drop (k + 1))) := Lib.hid (by rw [HR.out.1, HFD.out]; simp [hf0])
          clear HT1 hq hb4
          go_wp2_with fail
          go_roundg (n - (k + 1))
          case measure => omega
          case rel => exact ⟨k + 1, f, rfl, by omega, by omega, by go_num, rfl, Lib.hid ⟨HN.out, HB4.out⟩⟩
      | some tt =>
        rw [hq] at HT1
        unfold termV at HT1
        dsimp only at HT1
        with_reducible refine HT1.out.mono ?_
        rintro e w4 ⟨rfl, hb4⟩
        have HB4 : Hid (Below w.heap.size w w4) := Lib.hid (HBA.out.trans (hb4.mono HBA.out.size))
        have r0 : w4.cell? ⟨wr.heap.size, 0, none⟩ = some (.int .i64 a1) := (HEN.out w4 (hb4.mono (by simp))).1
        have r1 : w4.cell? ⟨wr.heap.size, 1, none⟩ = some (.int .i64 a2) := (HEN.out w4 (hb4.mono (by simp))).2
        rw [hq] at HFD
        by_cases he : tt = a2
        · subst he
          have HN : Hid (ans = mgo b t keep L (k + 1) f (l.drop (k + 1))) := Lib.hid (by rw [HR.out.1, HFD.out]; simp)
          clear HT1 hq hb4
          go_wp2_with fail
          go_roundg (n - (k + 1))
          case measure => omega
          case rel => exact ⟨k + 1, f, rfl, by omega, by omega, by go_num, rfl, Lib.hid ⟨HN.out, HB4.out⟩⟩
        · have b0 : (tt == a2) = false := by simp [he]
          by_cases hkp : a1 ≤ keep
          · have d0 : decide (a1 ≤ keep) = true := decide_eq_true hkp
            have hn0 : ans = none := by rw [HR.out.1, HFD.out]; simp [he, hkp]
            rw [hm] at hn0
            exact absurd hn0 (by simp)
          · have d0 : decide (a1 ≤ keep) = false := decide_eq_false hkp
            by_cases hf0 : f = 0
            · subst hf0
              have HN : Hid (ans = mgo b t keep L (k + 1) (k + 1) (l.drop (k + 1))) := Lib.hid (by rw [HR.out.1, HFD.out]; simp [he, hkp])
              clear HT1 hq hb4
              go_wp2_with fail
              go_roundg (n - (k + 1))
              case measure => omega
              case rel => exact ⟨k + 1, k + 1, rfl, by omega, by omega, by go_num, by go_num, Lib.hid ⟨HN.out, HB4.out⟩⟩
            · have b1 : ((f : Int) == 0) = false := by simp [hf0]
              have HN : Hid (ans = mgo b t keep L (k + 1) f (l.drop (k + 1))) := Lib.hid (by rw [HR.out.1, HFD.out]; simp [he, hkp, hf0])
              clear HT1 hq hb4
              go_wp2_with fail
              go_roundg (n - (k + 1))
              case measure => omega
              case rel => exact ⟨k + 1, f, rfl, by omega, by omega, by go_num, rfl, Lib.hid ⟨HN.out, HB4.out⟩⟩
    · have hfe : decide ((k : Int) < (n : Int)) = false := decide_eq_false (by omega)
      have e := HR.out.1
      rw [mgo_end b t keep L f l k (by rw [HZ.out]; omega)] at e
      have hf0 : f = F + 1 := by
        rw [e] at hm
        exact Option.some.inj hm
      subst hf0
      have HB := Lib.hid HR.out.2
      clear HR e hm
      have b1 : (((F + 1 : Nat) : Int) == 0) = false := by simp; omega
      have hcF : ¬ c = F := by omega
      have hkF : F < n := by have := HP.out.1; have := HZ.out; omega
      have hgl : gp < w.heap.size := by
        obtain ⟨_, _, e, h9, _⟩ := HR0.out.2 (by omega)
        injection e with e
        injection e with e _ _
        omega
      obtain ⟨pl, cl, hv, hlr, hln⟩ := H.out.rd
      obtain ⟨ixF, hix⟩ : ∃ ixF, ixF = (HL.el l F).ix := ⟨_, rfl⟩
      have HIXF : Hid ((HL.el l F).ix = ixF) := Lib.hid hix.symm
      obtain ⟨kx, hkx⟩ : ∃ kx : Nat, kx = (ixF - b - 1).toNat := ⟨_, rfl⟩
      have HPK : Hid (ixF = b + (kx : Int) + 1 ∧ kx ≤ L.length) := Lib.hid (by have := HP.out; rw [← hix] at this; omega)
      have hlo := H.out.lo
      have hhi := H.out.hi
      have hfew := H.out.few
      have hLc : L.length ≤ cl := by
        have := H.out.ow
        rw [hv] at this
        cases pl with
        | none =>
          have h1 := hln rfl
          rcases Nat.eq_zero_or_pos L.length with h | h
          · omega
          · obtain ⟨_, _, e, _⟩ := owns_len this h
            cases e
        | some ad =>
          rcases this.2 with ⟨e, _⟩ | ⟨g, cap, cur, e, _, _, h1, _⟩
          · cases e
          · injection e with _ _ e
            omega
      have hm1 : IntKind.i64.wrap (ixF - b) = (kx : Int) + 1 := by rw [show ixF - b = (kx : Int) + 1 by have := HPK.out.1; omega]; exact IntWalk.i64_in _ (by have := HPK.out.2; omega)
      have hm2 : IntKind.i64.wrap (kx : Int) = (kx : Int) := IntWalk.i64_in _ (by have := HPK.out.2; omega)
      have hm3 : (0 : Int) ≤ (kx : Int) := by omega
      have hm4 : (kx : Int) ≤ (cl : Int) := by have := HPK.out.2; omega
      have hm5 : kx ≤ cl := by have := HPK.out.2; omega
      have q0 : ∀ q : Later w, q.1.cell? ⟨xb, 0, none⟩ = some (.int .i64 b) := fun q => (H.out.below q.2).c0
      have q2 : ∀ q : Later w, q.1.cell? ⟨xb, 2, none⟩ = some (.slice pl L.length cl) := fun q => (H.out.below q.2).c2.trans (by rw [hv])
      have q3 : ∀ q : Later w, q.1.cell? ⟨gp, og + F * 4, none⟩ = some (.int .i64 ixF) := fun q => by
        obtain ⟨_, _, hp2, _, y0, _⟩ := (HR0.out.below q.2).en F hkF
        cases hp2
        rw [hix]
        exact y0
      have HDR : Hid (RdG ecells w w.heap.size (some ⟨gp, og + F * 4, none⟩) (n - F) (l.drop F)) := Lib.hid (HR0.out.drops ecells_length (by omega))
      have HOWN : Hid (∀ W, Below w.heap.size w W → Calls Tryz.prog 88 #[.slice (some ⟨gp, og + F * 4, none⟩) (n - F) (c - F)] W fun e w' => ∃ v', e = .returned v' ∧ w'.ownsRow W.heap.size 25 4 v' (n - F) (rowOf ecells (l.drop F)) ∧ Below W.heap.size W w') := Lib.hid (fun W hW => own_ens _ _ _ _ W ((HDR.out.below hW).more hW.size) (.inl ⟨_, _, rfl⟩) (by omega) (fun i hi => by
        have : HL.el (l.drop F) i = HL.el l (F + i) := by unfold HL.el; simp
        rw [this]
        exact hd _ (by omega)))
      have HTK : Hid (RdG ecells w w.heap.size pl kx (L.take kx)) := Lib.hid (hlr.takes ecells_length HPK.out.2)
      have HB2 : Hid (Below w.heap.size w wr.drew) := Lib.hid HB.out.drew
      have HV := Lib.hid hv
      have HLN := Lib.hid hln
      have hFn2 : F ≤ n := by omega
      have hFc : F ≤ c := by omega
      have hnF0 : 0 < n - F := by omega
      have hnF1 : ((0 : Int) < ((n - F : Nat) : Int)) := by omega
      obtain ⟨N, hN⟩ : ∃ N, N = n - F := ⟨_, rfl⟩
      clear hix hkx hlr hln hv hgl
      go_wp2_with fail
      all_goals (try exact absurd ‹c = F› hcF)
      have HNF : Hid (n - F ≤ 10000) := Lib.hid (by omega)
      clear hN
      cases pl with
      | none =>
        refine Mix.region_mix (n := 31) (m := 5) (fun V => ∃ q : Later w, V = q.1) [0, 1, 2, 3, 4, 5, 6, 7, 8, 9, 10, 11, 12, 13, 14, 15, 16, 17, 18, 19, 20, 21, 22, 23, 24, 25, 26] (by kernel_rfl) rfl rfl (by kernel_rfl) (by kernel_rfl) ⟨⟨_, HB2.out⟩, rfl⟩ ?_
        repeat (refine Mix.picks_step rfl ?_; go_big_quiet_step (fail))
        refine Mix.picks_nil ?_
        intro inv
        refine sink_one (i := 27) (by kernel_rfl) rfl (by omega) inv (fun K hK => ?_)
        have HKK := Lib.hid hK
        clear hK
        go_simp
        with_reducible refine (HOWN.out _ HB2.out).mono ?_
        rintro e w6 ⟨v6, rfl, ho6, hb6⟩
        obtain ⟨p6, c6, hv6⟩ := owns_slice ho6
        subst hv6
        have HB6 : Hid (Below w.heap.size w w6) := Lib.hid (HB2.out.trans (hb6.mono HB2.out.size))
        have HR6 := Lib.hid (RdG.of_own (f := ecells) ho6 (by rw [List.length_drop, HZ.out]))
        clear ho6 hb6
        refine HKK.out _ _ ⟨⟨_, HB6.out⟩, rfl⟩ ?_
        clear HKK inv
        intro hS inv
        (try simp only [Act.put]); (try simp only [List.setIfInBounds_toArray]); (try simp only [List.set_cons_succ]); (try simp only [List.set_cons_zero])
        refine sink_one (i := 28) (by kernel_rfl) rfl (by omega) inv (fun K hK => ?_)
        have HKK := Lib.hid hK
        clear hK
        refine RowT.growsStep en_T rfl _ _ rfl rfl (HTK.out.below HB6.out) (fun _ => by have := HLN.out rfl; omega) rfl HR6.out (Nat.le_refl _) (by omega) (by have := HPK.out.2; have := HNF.out; omega) ?_
        intro v7 w7 ho7 hg7
        have HB7 : Hid (Below w.heap.size w w7) := Lib.hid (HB6.out.trans ((Fr.of_grown hg7 (S := fun _ => False) (fun _ _ e => by cases e)).below HB6.out.size (fun _ h => h.elim)))
        have hlow : ∀ g, v7.ownBlock = some g → w.heap.size ≤ g := fun g hg => Nat.le_trans HB6.out.size (ho7.lt g hg).1
        have hlen7 : (L.take kx ++ l.drop F).length = kx + (n - F) := by rw [List.length_append, List.length_take, List.length_drop, HZ.out]; have := HPK.out.2; omega
        have hrow := H.out.row (l' := L.take kx ++ l.drop F) (Fr.of_all (S := fun k => v.ownBlock = some k) HB7.out) (by rw [hlen7]; exact owns_lowE ho7 (Nat.le_trans H.out.bs HB6.out.size)) (fun e => by have := hlow xb e; have := cell_lt H.out.c0; dsimp only at *; omega) (by rw [hlen7]; have := HPK.out.2; have := HNF.out; omega)
        have HROW := Lib.hid hrow
        have HLOW := Lib.hid hlow
        obtain ⟨p7, c7, hv7⟩ := owns_slice ho7
        subst hv7
        have cq : w7.cell? ⟨xb, 2, none⟩ = some (.slice none L.length cl) := q2 ⟨w7, HB7.out⟩
        have fq : w7.frozen? ⟨xb, 2, none⟩ = false := (H.out.below HB7.out).f2
        clear ho7 hg7 hlow hlen7 hrow
        refine HKK.out _ _ ⟨⟨_, HB7.out⟩, rfl⟩ ?_
        clear HKK inv hS
        intro hS inv
        (try simp only [Act.put]); (try simp only [List.setIfInBounds_toArray]); (try simp only [List.set_cons_succ]); (try simp only [List.set_cons_zero])
        refine sink_one (i := 29) (by kernel_rfl) rfl (by omega) inv (fun K hK => ?_)
        have HKK := Lib.hid hK
        clear hK
        go_simp
        refine HKK.out _ _ ⟨⟨_, HB7.out⟩, rfl⟩ ?_
        clear HKK inv
        intro hS inv
        (try simp only [Act.put]); (try simp only [List.setIfInBounds_toArray]); (try simp only [List.set_cons_succ]); (try simp only [List.set_cons_zero])
        refine sink_one (i := 30) (by kernel_rfl) rfl (by omega) inv (fun K hK => ?_)
        have HKK := Lib.hid hK
        clear hK
        go_simp
        refine HKK.out _ _ ⟨⟨_, HB7.out⟩, rfl⟩ ?_
        clear HKK inv
        intro hS inv
        (try simp only [Act.put]); (try simp only [List.setIfInBounds_toArray]); (try simp only [List.set_cons_succ]); (try simp only [List.set_cons_zero])
        refine sink_last (by kernel_rfl) rfl (by kernel_rfl) (fun K hK => ?_)
        have HKK := Lib.hid hK
        clear hK
        go_simp
        refine HKK.out _ _ ⟨rfl, ?_⟩
        clear HKK inv hS
        have y3 : (w7.setCell ⟨xb, 2, none⟩ (.slice p7 (kx + (n - F)) c7)).cell? ⟨gp, og + F * 4, none⟩ = some (.int .i64 ixF) := (World.cell?_setCell_other _ _ _ _ (by intro e; injection e with e _ _; exact HAP.out e.symm)).trans (q3 ⟨w7, HB7.out⟩)
        clear q0 q2 q3 cq fq
        go_wp2
        go_ret2
        exact ⟨by rw [HIXF.out]; rfl, _, by (rw [HIXF.out]; first | rw [show (ixF - b).toNat - 1 = kx by have := HPK.out.1; omega] | rw [show (ixF - b - 1).toNat = kx by have := HPK.out.1; omega]); exact HROW.out.1, HROW.out.2, .inr HLOW.out⟩
      | some ad =>
        obtain ⟨g9, o9, m9⟩ := ad
        refine Mix.region_mix (n := 31) (m := 5) (fun V => ∃ q : Later w, V = q.1) [0, 1, 2, 3, 4, 5, 6, 7, 8, 9, 10, 11, 12, 13, 14, 15, 16, 17, 18, 19, 20, 21, 22, 23, 24, 25, 26] (by kernel_rfl) rfl rfl (by kernel_rfl) (by kernel_rfl) ⟨⟨_, HB2.out⟩, rfl⟩ ?_
        repeat (refine Mix.picks_step rfl ?_; go_big_quiet_step (fail))
        refine Mix.picks_nil ?_
        intro inv
        refine sink_one (i := 27) (by kernel_rfl) rfl (by omega) inv (fun K hK => ?_)
        have HKK := Lib.hid hK
        clear hK
        go_simp
        with_reducible refine (HOWN.out _ HB2.out).mono ?_
        rintro e w6 ⟨v6, rfl, ho6, hb6⟩
        obtain ⟨p6, c6, hv6⟩ := owns_slice ho6
        subst hv6
        have HB6 : Hid (Below w.heap.size w w6) := Lib.hid (HB2.out.trans (hb6.mono HB2.out.size))
        have HR6 := Lib.hid (RdG.of_own (f := ecells) ho6 (by rw [List.length_drop, HZ.out]))
        clear ho6 hb6
        refine HKK.out _ _ ⟨⟨_, HB6.out⟩, rfl⟩ ?_
        clear HKK inv
        intro hS inv
        (try simp only [Act.put]); (try simp only [List.setIfInBounds_toArray]); (try simp only [List.set_cons_succ]); (try simp only [List.set_cons_zero])
        refine sink_one (i := 28) (by kernel_rfl) rfl (by omega) inv (fun K hK => ?_)
        have HKK := Lib.hid hK
        clear hK
        refine RowT.growsStep en_T rfl _ _ rfl rfl (HTK.out.below HB6.out) (fun h => by cases h) rfl HR6.out (Nat.le_refl _) (by omega) (by have := HPK.out.2; have := HNF.out; omega) ?_
        intro v7 w7 ho7 hg7
        have HB7 : Hid (Below w.heap.size w w7) := Lib.hid (HB6.out.trans ((Fr.of_grown hg7 (S := fun _ => False) (fun _ _ e => by cases e)).below HB6.out.size (fun _ h => h.elim)))
        have hlow : ∀ g, v7.ownBlock = some g → w.heap.size ≤ g := fun g hg => Nat.le_trans HB6.out.size (ho7.lt g hg).1
        have hlen7 : (L.take kx ++ l.drop F).length = kx + (n - F) := by rw [List.length_append, List.length_take, List.length_drop, HZ.out]; have := HPK.out.2; omega
        have hrow := H.out.row (l' := L.take kx ++ l.drop F) (Fr.of_all (S := fun k => v.ownBlock = some k) HB7.out) (by rw [hlen7]; exact owns_lowE ho7 (Nat.le_trans H.out.bs HB6.out.size)) (fun e => by have := hlow xb e; have := cell_lt H.out.c0; dsimp only at *; omega) (by rw [hlen7]; have := HPK.out.2; have := HNF.out; omega)
        have HROW := Lib.hid hrow
        have HLOW := Lib.hid hlow
        obtain ⟨p7, c7, hv7⟩ := owns_slice ho7
        subst hv7
        have cq : w7.cell? ⟨xb, 2, none⟩ = some (.slice (some ⟨g9, o9, m9⟩) L.length cl) := q2 ⟨w7, HB7.out⟩
        have fq : w7.frozen? ⟨xb, 2, none⟩ = false := (H.out.below HB7.out).f2
        clear ho7 hg7 hlow hlen7 hrow
        refine HKK.out _ _ ⟨⟨_, HB7.out⟩, rfl⟩ ?_
        clear HKK inv hS
        intro hS inv
        (try simp only [Act.put]); (try simp only [List.setIfInBounds_toArray]); (try simp only [List.set_cons_succ]); (try simp only [List.set_cons_zero])
        refine sink_one (i := 29) (by kernel_rfl) rfl (by omega) inv (fun K hK => ?_)
        have HKK := Lib.hid hK
        clear hK
        go_simp
        refine HKK.out _ _ ⟨⟨_, HB7.out⟩, rfl⟩ ?_
        clear HKK inv
        intro hS inv
        (try simp only [Act.put]); (try simp only [List.setIfInBounds_toArray]); (try simp only [List.set_cons_succ]); (try simp only [List.set_cons_zero])
        refine sink_one (i := 30) (by kernel_rfl) rfl (by omega) inv (fun K hK => ?_)
        have HKK := Lib.hid hK
        clear hK
        go_simp
        refine HKK.out _ _ ⟨⟨_, HB7.out⟩, rfl⟩ ?_
        clear HKK inv
        intro hS inv
        (try simp only [Act.put]); (try simp only [List.setIfInBounds_toArray]); (try simp only [List.set_cons_succ]); (try simp only [List.set_cons_zero])
        refine sink_last (by kernel_rfl) rfl (by kernel_rfl) (fun K hK => ?_)
        have HKK := Lib.hid hK
        clear hK
        go_simp
        refine HKK.out _ _ ⟨rfl, ?_⟩
        clear HKK inv hS
        have y3 : (w7.setCell ⟨xb, 2, none⟩ (.slice p7 (kx + (n - F)) c7)).cell? ⟨gp, og + F * 4, none⟩ = some (.int .i64 ixF) := (World.cell?_setCell_other _ _ _ _ (by intro e; injection e with e _ _; exact HAP.out e.symm)).trans (q3 ⟨w7, HB7.out⟩)
        clear q0 q2 q3 cq fq
        go_wp2
        go_ret2
        exact ⟨by rw [HIXF.out]; rfl, _, by (rw [HIXF.out]; first | rw [show (ixF - b).toNat - 1 = kx by have := HPK.out.1; omega] | rw [show (ixF - b - 1).toNat = kx by have := HPK.out.1; omega]); exact HROW.out.1, HROW.out.2, .inr HLOW.out⟩
end
end Go.Proofs.YtaodldagmmephaaGreat

/- rlog: Merge, whatever comes. -/
namespace Go.Proofs.YtaodldagmmephaaGreat
open Go.RowKit
section
variable {xb base : Nat} {b t : Int} {v : Value} {L : List En} {w : World}
theorem lg_merge (prev tm keep : Int) (p : Option Addr) (n c : Nat) (l : List En) (h : Lg xb base b t v L w) (hp : prev ≤ 4611686018427387904) (hr : RdG ecells w w.heap.size p n l) (hnc : n ≤ c) (hnil : (∃ b o, p = some ⟨b, o, none⟩) ∨ p = none ∧ c = 0) (hd : ∀ i, i < n → (HL.el l i).da.size ≤ 2000000) (hfin : L.length + n ≤ 10000) (hap : ∀ g o, p = some ⟨g, o, none⟩ → g ≠ xb) :
    Calls Tryz.prog 102 #[.pointer (some ⟨xb, 0, none⟩), .int .i64 prev, .int .i64 tm, .int .i64 keep, .slice p n c] w fun e w' => e = .returned (.tuple #[.int .i64 (mergeS b t L prev tm keep l).1.1, .bool (mergeS b t L prev tm keep l).1.2]) ∧ ∃ v', Lg xb base b t v' (mergeS b t L prev tm keep l).2 w' ∧ Fr (lgF xb v) w w' ∧ (v'.ownBlock = v.ownBlock ∨ ∀ g, v'.ownBlock = some g → w.heap.size ≤ g) := by
  have hn : n ≤ 10000 := by omega
  unfold mergeS
  by_cases hq : termS b t L prev = some tm ∧ followB prev tm l = true
  · rw [if_pos hq]
    cases hm : mgo b t keep L 0 0 l with
    | none =>
      refine (lg_merge_at prev tm keep p n c l h hp hr hn hq.1 hq.2 (.inl hm)).mono ?_
      rintro e w' ⟨rfl, hb⟩
      rw [hm]
      exact ⟨rfl, v, h.below hb, Fr.of_all hb, .inl rfl⟩
    | some f =>
      cases f with
      | zero =>
        refine (lg_merge_at prev tm keep p n c l h hp hr hn hq.1 hq.2 (.inr hm)).mono ?_
        rintro e w' ⟨rfl, hb⟩
        rw [hm]
        exact ⟨rfl, v, h.below hb, Fr.of_all hb, .inl rfl⟩
      | succ f =>
        refine (lg_merge_new prev tm keep p n c l h hp hr hn hnc hq.1 hq.2 hnil hd hfin hap f hm).mono ?_
        rintro e w' ⟨rfl, v', h1, h2, h3⟩
        exact ⟨rfl, v', h1, h2, h3⟩
  · rw [if_neg hq]
    refine (lg_merge_no prev tm keep p n c l h hp hr hn hq).mono ?_
    rintro e w' ⟨rfl, hb⟩
    exact ⟨rfl, v, h.below hb, Fr.of_all hb, .inl rfl⟩
end
end Go.Proofs.YtaodldagmmephaaGreat

/- rlog: Merge, whatever comes; of no entries nothing is asked of where they lie. -/
namespace Go.Proofs.YtaodldagmmephaaGreat
open Go.RowKit
section
variable {xb base : Nat} {b t : Int} {v : Value} {L : List En} {w : World}
theorem lg_merge2 (prev tm keep : Int) (p : Option Addr) (n c : Nat) (l : List En) (h : Lg xb base b t v L w) (hp : prev ≤ 4611686018427387904) (hr : RdG ecells w w.heap.size p n l) (hnc : n ≤ c) (hd : ∀ i, i < n → (HL.el l i).da.size ≤ 2000000) (hfin : L.length + n ≤ 10000) (hap : 0 < n → ∀ g o, p = some ⟨g, o, none⟩ → g ≠ xb) :
    Calls Tryz.prog 102 #[.pointer (some ⟨xb, 0, none⟩), .int .i64 prev, .int .i64 tm, .int .i64 keep, .slice p n c] w fun e w' => e = .returned (.tuple #[.int .i64 (mergeS b t L prev tm keep l).1.1, .bool (mergeS b t L prev tm keep l).1.2]) ∧ ∃ v', Lg xb base b t v' (mergeS b t L prev tm keep l).2 w' ∧ Fr (lgF xb v) w w' ∧ (v'.ownBlock = v.ownBlock ∨ ∀ g, v'.ownBlock = some g → w.heap.size ≤ g) := by
  by_cases h0 : 0 < n
  · obtain ⟨b, o, e, _⟩ := hr.2 h0
    exact lg_merge prev tm keep p n c l h hp hr hnc (.inl ⟨b, o, e⟩) hd hfin (hap h0)
  · have hl : l = [] := List.eq_nil_of_length_eq_zero (by rw [hr.1]; omega)
    have hn : n ≤ 10000 := by omega
    subst hl
    unfold mergeS
    by_cases hq : termS b t L prev = some tm ∧ followB prev tm [] = true
    · rw [if_pos hq]
      refine (lg_merge_at prev tm keep p n c [] h hp hr hn hq.1 hq.2 (.inr rfl)).mono ?_
      rintro e w' ⟨rfl, hb⟩
      exact ⟨rfl, v, h.below hb, Fr.of_all hb, .inl rfl⟩
    · rw [if_neg hq]
      refine (lg_merge_no prev tm keep p n c [] h hp hr hn hq).mono ?_
      rintro e w' ⟨rfl, hb⟩
      exact ⟨rfl, v, h.below hb, Fr.of_all hb, .inl rfl⟩
end
end Go.Proofs.YtaodldagmmephaaGreat

/- arboretumbook.SameInts: are two lists of ints alike? -/
namespace Go.Proofs.YtaodldagmmephaaGreat
open Go.RowKit

/-- What SameInts answers. -/
def SamePost {α : Type} (zs us : List α) (w : World) (e : Ending) (w' : World) : Prop :=
  ∃ (b : Bool) (m : Nat), e = .returned (.bool b) ∧ (b = true ↔ zs = us) ∧ w' = w.drewN m

theorem same_fin {α : Type} [Inhabited α] {zs us : List α} (hl : zs.length = us.length) (h : ∀ j, j < zs.length → HL.el zs j = HL.el us j) : zs = us := HL.ext_el hl h

set_option maxHeartbeats 1000000 in
set_option maxRecDepth 100000 in
theorem same_ints (p q : Option Addr) (n c m d : Nat) (zs us : List Int) (w : World) (B B' : Nat) (h1 : RdI w B p n zs) (h2 : RdI w B' q m us) (hn : n ≤ 1000000) (hm : m ≤ 1000000) :
    Calls Tryz.prog 17 #[.slice p n c, .slice q m d] w (SamePost zs us w) := by
  have hz := h1.1
  have hu := h2.1
  by_cases hnm : n = m
  · subst hnm
    have hne : ((n : Int) != (n : Int)) = false := by simp
    have H1 := Lib.hid h1
    have H2 := Lib.hid h2
    have HZ := Lib.hid hz
    have HU := Lib.hid hu
    clear h1 h2 hz hu hm
    go_enter Tryz.func17, Tryz.ntmps17
    go_wp2
    clear hne
    go_loopw [5, 4] (fun iv _ wr => ∃ k m' : Nat, k ≤ n ∧ iv = .int .i64 k ∧ wr = w.drewN m' ∧ ∀ j, j < k → HL.el zs j = HL.el us j) (fun iv _ _ => n - (intOf iv).toNat)
    case atStart => exact ⟨0, 0, Nat.zero_le _, rfl, rfl, fun j hj => by omega⟩
    case round =>
      obtain ⟨k, m', hk, rfl, rfl, hall⟩ := hrel
      have HA := Lib.hid hall; clear hall
      by_cases hlt : k < n
      · obtain ⟨b1, o1, e1, _, c1⟩ := H1.out.2 (by omega)
        obtain ⟨b2, o2, e2, _, c2⟩ := H2.out.2 (by omega)
        subst e1 e2
        have q1 := c1 k hlt
        have q2 := c2 k hlt
        clear c1 c2
        by_cases he : HL.el zs k = HL.el us k
        · have g : (HL.el zs k == HL.el us k) = true := by rw [beq_iff_eq]; exact he
          have HE := Lib.hid he
          clear he
          generalize hx : HL.el zs k = x at *
          generalize hy : HL.el us k = y at *
          have HX := Lib.hid (And.intro hx hy); clear hx hy
          go_wp2
          go_quiet (fail)
          go_wp2
          go_roundw
          case rel => exact ⟨k + 1, _, by omega, by go_num, rfl, fun j hj => by
            by_cases e : j = k
            · subst e; rw [HX.out.1, HX.out.2]; exact HE.out
            · exact HA.out j (by omega)⟩
          case measure => simp [intOf]; omega
        · have g : (HL.el zs k == HL.el us k) = false := by rw [beq_eq_false_iff_ne]; exact he
          have HE := Lib.hid he
          clear he
          generalize hx : HL.el zs k = x at *
          generalize hy : HL.el us k = y at *
          have HX := Lib.hid (And.intro hx hy); clear hx hy
          go_wp2
          go_quiet (fail)
          go_wp2
          go_ret
          exact ⟨false, _, rfl, ⟨(fun h => by cases h), (fun h => by exfalso; apply HE.out; rw [← HX.out.1, ← HX.out.2, h])⟩, World.drewN_drewN ..⟩
      · go_wp2
        go_ret
        exact ⟨true, m', rfl, ⟨fun _ => same_fin (by rw [HZ.out, HU.out]) (fun j hj => HA.out j (by rw [HZ.out] at hj; omega)), fun _ => rfl⟩, rfl⟩
  · have hne : ((n : Int) != (m : Int)) = true := by rw [bne_iff_ne]; omega
    have HD : Hid (¬ zs = us) := fun e => hnm (by rw [← hz, ← hu, e])
    clear h1 h2 hz hu
    go_enter Tryz.func17, Tryz.ntmps17
    go_wp2
    go_ret
    exact ⟨false, 0, rfl, ⟨(fun h => by cases h), (fun h => absurd h HD.out)⟩, rfl⟩
end Go.Proofs.YtaodldagmmephaaGreat

