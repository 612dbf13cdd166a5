/- slices.Grow of nil, slices.Concat of two rows of ints; conf: the contract of Near. -/
import Derived.Test.YtmfidemkmmbioaaGreatConfW
import Derived.Test.YtmfidemkmmbioaaGreatAppR
import Derived.Lib.AppendZeros
namespace Go.Proofs.YtmfidemkmmbioaaGreat
open Go.RowKit

set_option maxHeartbeats 1000000 in
set_option maxRecDepth 100000 in
theorem grow_nil (n : Nat) (w : World) (hn : n ≤ 100000) :
    Calls Tryz.prog 90 #[.slice none 0 0, .int .i64 n] w fun e w' => ∃ q c, e = .returned (.slice q 0 c) ∧ (q = none → c = 0) ∧ w'.ownsRow w.heap.size 3 1 (.slice q 0 c) 0 [] ∧ Below w.heap.size w w' := by
  obtain ⟨i0, hi0, hz0, hz1, hz2⟩ := info_parts info_int
  by_cases h0 : n = 0
  · subst h0
    go_enter Tryz.func90, Tryz.ntmps90
    go_wp2
    go_ret
    exact ⟨none, 0, rfl, fun _ => rfl, World.ownsRow_nil _ _ _ _, Below.refl _ _⟩
  · have hrz := fun ty => Lib.run_append_nil_zeros w 22 3 ty 3 i0 (.int .i64 0) .i64 .i64 Tryz.underlying22 Tryz.underlying3 hi0 hz0 n (by omega) (by omega) (by omega) (by rw [hz2]; omega)
    have HRZ := Lib.hid hrz
    have hpos : 0 < n := by omega
    clear hrz
    go_enter Tryz.func90, Tryz.ntmps90
    go_wp2_with (at_builtin; refine Lib.wpList_append_run _ rfl _ _ _ _ rfl _ _ rfl rfl _ _ (HRZ.out _) ?_)
    go_ret
    refine ⟨_, _, rfl, fun h => (by cases h), (World.ownsRow_made w _ _ (Nat.le_refl _) (grownCap_le_maxLen w n 0 3 (by unfold maxLen; omega)) ?_).drew, ((Below.refl _ w).alloc (Nat.le_refl _) _).drew⟩
    have := grownCap_ge w n 0 3
    simp [Builtin.zeroCells]
    omega

namespace CL
def cat (zs us : List Int) (i : Nat) : List Int := if i = 0 then [] else if i = 1 then zs else zs ++ us
def catLen (n m i : Nat) : Nat := if i = 0 then 0 else if i = 1 then n else n + m
end CL

set_option maxHeartbeats 1000000 in
set_option maxRecDepth 100000 in
theorem concat_two (nb : Nat) (p q : Option Addr) (n c m d : Nat) (zs us : List Int) (w : World) (h : RdI w w.heap.size p n zs) (h2 : RdI w w.heap.size q m us) (hp0 : p = none → c = 0) (hq0 : q = none → d = 0) (hn : n ≤ 1000) (hm : m ≤ 1000)
    (hc0 : w.cell? ⟨nb, 0, none⟩ = some (.slice p n c)) (hc1 : w.cell? ⟨nb, 1, none⟩ = some (.slice q m d)) :
    Calls Tryz.prog 39 #[.slice (some ⟨nb, 0, none⟩) 2 2] w fun e w' => ∃ g k, e = .returned (.slice g (n + m) k) ∧ w'.ownsRow w.heap.size 3 1 (.slice g (n + m) k) (n + m) (rowOf ncells (zs ++ us)) ∧ Below w.heap.size w w' := by
  have HZ := Lib.hid h
  have HU := Lib.hid h2
  have HP0 := Lib.hid hp0
  have HQ0 := Lib.hid hq0
  have hnb := cell_lt hc0
  clear h h2 hp0 hq0
  go_enter Tryz.func39, Tryz.ntmps39
  go_wp2
  go_loop [3, 5, 11] (fun sv _ iv => (iv = .int .i64 0 ∧ sv = .int .i64 0) ∨ (iv = .int .i64 1 ∧ sv = .int .i64 n) ∨ (iv = .int .i64 2 ∧ sv = .int .i64 ((n + m : Nat) : Int))) (fun _ _ iv => 2 - (intOf iv).toNat)
  case atStart => exact .inl ⟨rfl, rfl⟩
  case round =>
    rcases hrel with ⟨rfl, rfl⟩ | ⟨rfl, rfl⟩ | ⟨rfl, rfl⟩
    · go_wp2
      go_round
      case rel => exact .inr (.inl ⟨rfl, by go_num⟩)
      case measure => simp [intOf]
    · have e1 : IntKind.i64.wrap ((n : Int) + (m : Int)) = ((n + m : Nat) : Int) := by rw [IntWalk.i64_in _ ⟨by omega, by omega⟩]; omega
      go_wp2
      go_round
      case rel => exact .inr (.inr ⟨rfl, by go_num⟩)
      case measure => simp [intOf]
    · have HG := Lib.hid (grow_nil (n + m) w (by omega))
      go_wp2_with fail
      refine HG.out.mono ?_
      rintro e w1 ⟨g, k, rfl, _, ho, hb⟩
      have HST : Hid (∃ g k, Value.slice g 0 k = .slice g 0 k ∧ True) := ⟨g, k, rfl, trivial⟩
      have HO := Lib.hid ho
      have HB := Lib.hid hb
      clear ho hb HST
      go_wp2
      go_loopw [6, 8, 27] (fun sv _ iv wr => ∃ i : Nat, i ≤ 2 ∧ iv = .int .i64 i ∧ ∃ g k, sv = .slice g (CL.catLen n m i) k ∧ wr.ownsRow w.heap.size 3 1 (.slice g (CL.catLen n m i) k) (CL.catLen n m i) (rowOf ncells (CL.cat zs us i)) ∧ Below w.heap.size w wr) (fun _ _ iv _ => 2 - (intOf iv).toNat)
      case atStart => exact ⟨0, by omega, rfl, g, k, rfl, HO.out, HB.out⟩
      case round =>
        clear HO HB
        obtain ⟨i, hi, rfl, g, k, rfl, ho, hb⟩ := hrel
        have hbs := hb.size
        have hca := (hb.cell (p := ⟨nb, 0, none⟩) hnb).trans hc0
        have hcb := (hb.cell (p := ⟨nb, 1, none⟩) hnb).trans hc1
        have HO := Lib.hid ho
        have HB := Lib.hid hb
        clear ho hb
        have hcase : i = 0 ∨ i = 1 ∨ i = 2 := by omega
        rcases hcase with rfl | rfl | rfl
        · have HO0 : Hid (wr.ownsRow w.heap.size 3 1 (.slice g 0 k) 0 []) := HO.out
          have hl0 : CL.catLen n m 0 = 0 := rfl
          rw [hl0]
          clear HO hl0
          go_wp2_with (at_builtin; refine append_rd rfl _ _ rfl w.heap.size (.slice g 0 k) 0 [] rfl HO0.out p n c zs rfl ((HZ.out.below HB.out).more HB.out.size) HP0.out (by omega) HB.out.size ?_; intro v3 w3 hown3 hgr3
                       rw [Nat.zero_add, List.nil_append] at hown3
                       obtain ⟨p3, c3, rfl⟩ := owns_slice hown3
                       have HO3 := Lib.hid hown3
                       have HB3 := Lib.hid (HB.out.grown hgr3 HB.out.size (fun x hx => (HO0.out.lt x hx).1))
                       clear hown3 hgr3)
          go_roundw
          case rel => exact ⟨1, by omega, by go_num, p3, c3, rfl, HO3.out, HB3.out⟩
          case measure => simp [intOf]
        · have HO0 : Hid (wr.ownsRow w.heap.size 3 1 (.slice g n k) n (rowOf ncells zs)) := HO.out
          have hl0 : CL.catLen n m 1 = n := rfl
          rw [hl0]
          clear HO hl0
          go_wp2_with (at_builtin; refine append_rd rfl _ _ rfl w.heap.size (.slice g n k) n (rowOf ncells zs) rfl HO0.out q m d us rfl ((HU.out.below HB.out).more HB.out.size) HQ0.out (by omega) HB.out.size ?_; intro v3 w3 hown3 hgr3
                       obtain ⟨p3, c3, rfl⟩ := owns_slice hown3
                       have HO3 := Lib.hid hown3
                       have HB3 := Lib.hid (HB.out.grown hgr3 HB.out.size (fun x hx => (HO0.out.lt x hx).1))
                       clear hown3 hgr3)
          go_roundw
          case rel => exact ⟨2, by omega, by go_num, p3, c3, rfl, by have e := HO3.out; rw [← rowOf_append] at e; exact e, HB3.out⟩
          case measure => simp [intOf]
        · have HO0 : Hid (wr.ownsRow w.heap.size 3 1 (.slice g (n + m) k) (n + m) (rowOf ncells (zs ++ us))) := HO.out
          have hl0 : CL.catLen n m 2 = n + m := rfl
          rw [hl0]
          clear HO hl0
          go_wp2
          go_ret
          exact ⟨g, k, rfl, HO0.out, HB.out⟩

namespace CL
def odd (zs us l : List Int) : Nat := (l.filter (fun x => decide (x ∈ zs) != decide (x ∈ us))).length
def near (zs us : List Int) : Bool := decide (odd zs us (nrm (zs ++ us)) = 1)
theorem odd_succ {zs us l : List Int} {i : Nat} (h : i < l.length) : odd zs us (l.take (i + 1)) = odd zs us (l.take i) + (if (decide (HL.el l i ∈ zs) != decide (HL.el l i ∈ us)) = true then 1 else 0) := by
  rw [take_succ_el h]
  unfold odd
  rw [List.filter_append, List.length_append]
  congr 1
  by_cases h1 : (decide (HL.el l i ∈ zs) != decide (HL.el l i ∈ us)) = true
  · rw [if_pos h1, List.filter_cons, if_pos h1]; rfl
  · rw [if_neg h1, List.filter_cons, if_neg h1]; rfl
end CL

set_option maxHeartbeats 1000000 in
set_option maxRecDepth 100000 in
theorem near_ints (p q : Option Addr) (n c m d : Nat) (zs us : List Int) (w : World) (h : RdI w w.heap.size p n zs) (h2 : RdI w w.heap.size q m us) (hp0 : p = none → c = 0) (hq0 : q = none → d = 0) (hn : n ≤ 1000) (hm : m ≤ 1000) :
    Calls Tryz.prog 22 #[.slice p n c, .slice q m d] w fun e w' => e = .returned (.bool (CL.near zs us)) ∧ Below w.heap.size w w' := by
  obtain ⟨N, hN⟩ : ∃ N, (CL.nrm (zs ++ us)).length = N := ⟨_, rfl⟩
  have hNn : N ≤ 2000 := by have := CL.nrm_length (zs ++ us); rw [List.length_append, h.1, h2.1] at this; omega
  have HNN := Lib.hid hN
  have HZ := Lib.hid h
  have HU := Lib.hid h2
  have HP0 := Lib.hid hp0
  have HQ0 := Lib.hid hq0
  clear h h2 hN hp0 hq0
  go_enter Tryz.func22, Tryz.ntmps22
  have hb0 : Below w.heap.size w (w.alloc (.cells #[.slice p n c, .slice q m d] 22)) := (Below.refl _ w).alloc (Nat.le_refl _) _
  have HCC := Lib.hid (concat_two w.heap.size p q n c m d zs us (w.alloc (.cells #[.slice p n c, .slice q m d] 22)) ((HZ.out.below hb0).more hb0.size) ((HU.out.below hb0).more hb0.size) HP0.out HQ0.out hn hm (by go_simp) (by go_simp))
  have HB0 := Lib.hid hb0
  clear hb0
  go_wp2_with fail
  refine HCC.out.mono ?_
  rintro e w1 ⟨g, k, rfl, ho, hb1⟩
  have HR1 := Lib.hid (RdI.of_own ho (by rw [List.length_append, HZ.out.1, HU.out.1]))
  have HB1 : Hid (Below w.heap.size w w1) := HB0.out.trans (hb1.mono HB0.out.size)
  clear ho hb1 HCC
  have HNO := Lib.hid (norm_ints g (n + m) k (zs ++ us) w1 HR1.out (by omega) N HNN.out)
  go_wp2_with fail
  refine HNO.out.mono ?_
  rintro e w2 ⟨g2, k2, rfl, ho2, hb2⟩
  have HA := Lib.hid (RdI.of_own ho2 HNN.out)
  have HB2 : Hid (Below w.heap.size w w2) := HB1.out.trans (hb2.mono HB1.out.size)
  clear ho2 hb2 HNO
  have HZ2 := Lib.hid (HZ.out.below HB2.out)
  have HU2 := Lib.hid (HU.out.below HB2.out)
  go_wp2
  go_loop [5, 7, 14] (fun cv _ iv => ∃ i : Nat, i ≤ N ∧ iv = .int .i64 i ∧ ∃ t : Nat, t ≤ i ∧ cv = .int .i64 t ∧ t = CL.odd zs us ((CL.nrm (zs ++ us)).take i)) (fun _ _ iv => N - (intOf iv).toNat)
  case atStart => exact ⟨0, Nat.zero_le _, rfl, 0, Nat.le_refl _, rfl, by simp [CL.odd]⟩
  case round =>
    obtain ⟨i, hi, rfl, t, hti, rfl, ht⟩ := hrel
    have HT := Lib.hid ht
    clear ht
    by_cases hlt : i < N
    · obtain ⟨b, o, hp, _, hcs⟩ := HA.out.2 (by omega)
      have hcell := hcs i hlt
      clear hcs
      subst hp
      have HCS := Lib.hid (CL.odd_succ (zs := zs) (us := us) (l := CL.nrm (zs ++ us)) (i := i) (by rw [HNN.out]; exact hlt))
      have HH1 := Lib.hid (has_ints p n c _ zs (HL.el (CL.nrm (zs ++ us)) i) w2 HZ2.out (by omega))
      have HH2 := Lib.hid (has_ints q m d _ us (HL.el (CL.nrm (zs ++ us)) i) w2 HU2.out (by omega))
      generalize hx : HL.el (CL.nrm (zs ++ us)) i = x at *
      clear hx
      generalize hb1 : decide (x ∈ zs) = b1 at *
      generalize hb2 : decide (x ∈ us) = b2 at *
      clear hb1 hb2
      go_wp2_with fail
      refine HH1.out.mono ?_
      rintro e w3 ⟨rfl, rfl⟩
      go_wp2_with fail
      refine HH2.out.mono ?_
      rintro e w4 ⟨rfl, rfl⟩
      cases b1 <;> cases b2
      · rw [if_neg (by decide)] at HCS
        go_wp2
        go_round
        case rel => exact ⟨i + 1, by omega, by go_num, t, by omega, rfl, by rw [HCS.out, HT.out]; rfl⟩
        case measure => simp [intOf]; omega
      · rw [if_pos (by decide)] at HCS
        go_wp2
        go_round
        case rel => exact ⟨i + 1, by omega, by go_num, t + 1, by omega, by go_num, by rw [HCS.out, HT.out]⟩
        case measure => simp [intOf]; omega
      · rw [if_pos (by decide)] at HCS
        go_wp2
        go_round
        case rel => exact ⟨i + 1, by omega, by go_num, t + 1, by omega, by go_num, by rw [HCS.out, HT.out]⟩
        case measure => simp [intOf]; omega
      · rw [if_neg (by decide)] at HCS
        go_wp2
        go_round
        case rel => exact ⟨i + 1, by omega, by go_num, t, by omega, rfl, by rw [HCS.out, HT.out]; rfl⟩
        case measure => simp [intOf]; omega
    · have hiN : i = N := by omega
      subst hiN
      have HC : Hid (CL.near zs us = decide (t = 1)) := Lib.hid (by
        have e := HT.out
        rw [List.take_of_length_le (by rw [HNN.out]; exact Nat.le_refl _)] at e
        unfold CL.near
        rw [← e])
      clear HT
      go_wp2
      go_ret
      refine ⟨?_, HB2.out⟩
      rw [HC.out]
      by_cases h1 : t = 1
      · subst h1; rfl
      · simp [h1]; omega
end Go.Proofs.YtmfidemkmmbioaaGreat
