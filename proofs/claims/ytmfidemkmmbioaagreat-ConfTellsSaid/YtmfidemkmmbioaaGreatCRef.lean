/- arboretumref16's reckoning with members: what it answers. -/
import Derived.Test.YtmfidemkmmbioaaGreatCPut
namespace Go.Proofs.YtmfidemkmmbioaaGreat
open Go.RowKit

theorem below_drewN1 {B : Nat} {w w' : World} (h : Below B w w') (n : Nat) : Below B w (w'.drewN n) := ⟨h.os, h.tape, h.output, h.size, h.block⟩

set_option maxHeartbeats 1000000 in
set_option maxRecDepth 100000 in
theorem ref_has (p : Option Addr) (n c B : Nat) (l : List Int) (x : Int) (w : World) (h : RdI w B p n l) (hn : n ≤ 1000000) :
    Calls Tryz.prog 15 #[.slice p n c, .int .i64 x] w fun e w' => e = .returned (.bool (decide (x ∈ l))) ∧ w = w' := by
  have H := Lib.hid h
  clear h
  go_enter Tryz.func15, Tryz.ntmps15
  go_wp2
  go_loopw [5] (fun iv wr => ∃ k : Nat, k ≤ n ∧ iv = .int .i64 k ∧ wr = w ∧ Hid (∀ i, i < k → HL.el l i ≠ x)) (fun iv _ => n - (intOf iv).toNat)
  case atStart => exact ⟨0, Nat.zero_le _, rfl, rfl, Lib.hid (fun i hi => by omega)⟩
  case round =>
    obtain ⟨k, hk, rfl, rfl, HK⟩ := hrel
    by_cases hlt : k < n
    · obtain ⟨b, o, e, _, hc⟩ := H.out.2 (by omega)
      subst e
      have hcell := hc k hlt
      clear hc
      by_cases hx : HL.el l k = x
      · have HIN : Hid (decide (x ∈ l) = true) := Lib.hid (by rw [← hx]; exact decide_eq_true (el_mem (by have := H.out.1; omega)))
        rw [hx] at hcell
        have hq : (x == x) = true := by simp
        clear HK hx
        go_wp2
        go_ret
        exact ⟨by rw [HIN.out]; rfl, rfl⟩
      · have HK2 : Hid (∀ i, i < k + 1 → HL.el l i ≠ x) := Lib.hid (fun i hi => by
          by_cases e : i = k
          · subst e; exact hx
          · exact HK.out i (by omega))
        have hq : (HL.el l k == x) = false := by rw [beq_eq_false_iff_ne]; exact hx
        clear HK hx
        generalize HL.el l k = y at *
        go_wp2
        go_roundw
        case rel => exact ⟨k + 1, by omega, by go_num, trivial, HK2⟩
        case measure => simp [intOf]; omega
    · have HOUT : Hid (decide (x ∈ l) = false) := Lib.hid (by
        rw [decide_eq_false_iff_not]
        intro hm
        obtain ⟨i, hi, he⟩ := List.getElem_of_mem hm
        have h1 := HL.el_eq l i hi
        rw [List.getElem?_eq_getElem hi] at h1
        injection h1 with h1
        exact HK.out i (by have := H.out.1; omega) (h1.symm.trans he))
      clear HK
      go_wp2
      go_ret
      exact ⟨by rw [HOUT.out]; rfl, rfl⟩

/-- A row of the call's own that is nil where it holds nothing. -/
def OwnR (w : World) (base : Nat) (v : Value) (l : List Int) : Prop := w.ownsRow base 3 1 v l.length (rowOf ncells l) ∧ (l.length = 0 → v = .slice none 0 0)
theorem OwnR.nil (w : World) (base : Nat) : OwnR w base (.slice none 0 0) [] := ⟨World.ownsRow_nil _ _ _ _, fun _ => rfl⟩

theorem OwnR.put {w : World} {base : Nat} {v : Value} {l : List Int} (h : OwnR w base v l) (x : Int) (hn : l.length ≤ 1000) (hb : base ≤ w.heap.size) :
    Calls Tryz.prog 32 #[v, .int .i64 x] w fun e w' => ∃ u, e = .returned u ∧ OwnR w' base u (CL.ins l x) ∧ Below w.heap.size w w' := by
  refine (ref_put_own x h.1 rfl hn h.2).mono ?_
  rintro e w' ⟨u, rfl, ho, hb'⟩
  refine ⟨u, rfl, ⟨?_, fun h0 => ?_⟩, hb'⟩
  · rw [CL.ins_length]
    exact owns_more ho hb
  · rw [CL.ins_length] at h0; omega

theorem OwnR.rd {w : World} {base : Nat} {p : Option Addr} {n c : Nat} {l : List Int} (h : OwnR w base (.slice p n c) l) : RdI w w.heap.size p n l ∧ l.length = n := by
  obtain ⟨q, d, e⟩ := owns_slice h.1
  injection e with e1 e2 e3
  subst e1 e2 e3
  exact ⟨RdI.of_own h.1 rfl, rfl⟩

set_option maxHeartbeats 2000000 in
set_option maxRecDepth 100000 in
theorem ref_norm (p : Option Addr) (n c : Nat) (zs : List Int) (w : World) (h : RdI w w.heap.size p n zs) (hn : n ≤ 1000) :
    Calls Tryz.prog 11 #[.slice p n c] w fun e w' => ∃ v, e = .returned v ∧ OwnR w' w.heap.size v (CL.nrm zs) ∧ Below w.heap.size w w' := by
  have H := Lib.hid h
  clear h
  go_enter Tryz.func11, Tryz.ntmps11
  go_wp2
  go_loopw [3, 4] (fun ov iv wr => ∃ k : Nat, k ≤ n ∧ iv = .int .i64 k ∧ ∃ l, Hid (l = CL.nrm (zs.take k)) ∧ Hid (OwnR wr w.heap.size ov l) ∧ Hid (Below w.heap.size w wr)) (fun _ iv _ => n - (intOf iv).toNat)
  case atStart => exact ⟨0, Nat.zero_le _, rfl, [], Lib.hid (by rw [List.take_zero]; exact (List.eq_nil_of_length_eq_zero (Nat.le_zero.1 (CL.nrm_length []))).symm), Lib.hid (OwnR.nil _ _), Lib.hid (Below.refl _ _)⟩
  case round =>
    obtain ⟨k, hk, rfl, l, HLL, HO, HB⟩ := hrel
    by_cases hlt : k < n
    · obtain ⟨b, o, e, _, hc⟩ := (H.out.below HB.out).2 (by omega)
      subst e
      have hcell := hc k hlt
      clear hc
      have HLN : Hid (l.length ≤ 1000) := Lib.hid (by
        have := CL.nrm_length (zs.take k)
        rw [HLL.out]
        rw [List.length_take] at this
        omega)
      have HS : Hid (CL.nrm (zs.take (k + 1)) = if HL.el zs k ∈ l then l else CL.ins l (HL.el zs k)) := Lib.hid (by rw [HLL.out]; exact CL.nrm_succ (by have := H.out.1; omega))
      generalize HL.el zs k = y at *
      obtain ⟨tp, tc, hv⟩ := owns_slice HO.out.1
      subst hv
      have HHAS := Lib.hid (ref_has tp l.length tc _ l y wr HO.out.rd.1 (by have := HLN.out; omega))
      by_cases hm : y ∈ l
      · have hd : decide (y ∈ l) = true := decide_eq_true hm
        rw [hd] at HHAS
        have HS2 : Hid (l = CL.nrm (zs.take (k + 1))) := Lib.hid (by rw [HS.out, if_pos hm])
        clear hm hd HS
        go_wp2_with fail
        refine HHAS.out.mono ?_
        rintro e w2 ⟨rfl, rfl⟩
        go_wp2
        go_roundw
        case rel => exact ⟨k + 1, by omega, by go_num, l, HS2, HO, HB⟩
        case measure => simp [intOf]; omega
      · have hd : decide (y ∈ l) = false := decide_eq_false hm
        rw [hd] at HHAS
        have HS2 : Hid (CL.ins l y = CL.nrm (zs.take (k + 1))) := Lib.hid (by rw [HS.out, if_neg hm])
        have HP := Lib.hid (HO.out.put y HLN.out HB.out.size)
        clear hm hd HS
        go_wp2_with fail
        refine HHAS.out.mono ?_
        rintro e w2 ⟨rfl, rfl⟩
        go_wp2_with fail
        refine HP.out.mono ?_
        rintro e w3 ⟨u, rfl, ho3, hb3⟩
        have HO3 := Lib.hid ho3
        have HB3 : Hid (Below w.heap.size w w3) := HB.out.trans (hb3.mono HB.out.size)
        clear ho3 hb3
        go_wp2
        go_roundw
        case rel => exact ⟨k + 1, by omega, by go_num, _, HS2, HO3, HB3⟩
        case measure => simp [intOf]; omega
    · have HE : Hid (l = CL.nrm zs) := Lib.hid (by rw [HLL.out, List.take_of_length_le (by have := H.out.1; omega)])
      go_wp2
      go_ret
      exact ⟨_, rfl, by rw [← HE.out]; exact HO.out, HB.out⟩

theorem quoZ_wrap {x : Int} (h1 : ¬ x < 1) (h2 : x ≤ 9223372036854775807) : IntKind.i64.wrap (x.tdiv 2) = x.tdiv 2 ∧ IntKind.i64.wrap (x.tdiv 2 + 1) = x.tdiv 2 + 1 := by
  rw [Int.tdiv_eq_ediv_of_nonneg (by omega)]
  exact ⟨IntWalk.i64_in _ ⟨by omega, by omega⟩, IntWalk.i64_in _ ⟨by omega, by omega⟩⟩

def quoZ (x : Int) : Int := if x < 1 then 0 else x.tdiv 2 + 1
theorem quoZ_nat (n : Nat) : quoZ n = (CL.quo n : Int) := by
  unfold quoZ CL.quo
  by_cases h : n < 1
  · rw [if_pos h, if_pos (by omega)]; rfl
  · rw [if_neg h, if_neg (by omega), Int.tdiv_eq_ediv_of_nonneg (by omega)]
    omega

set_option maxRecDepth 100000 in
theorem conf_quorum (x : Int) (w : World) (h : x ≤ 9223372036854775807) :
    Calls Tryz.prog 16 #[.int .i64 x] w fun e w' => e = .returned (.int .i64 (quoZ x)) ∧ w = w' := by
  unfold quoZ
  by_cases h1 : x < 1
  · rw [if_pos h1]
    go_enter Tryz.func16, Tryz.ntmps16
    go_wp2
    go_ret
    exact ⟨rfl, rfl⟩
  · rw [if_neg h1]
    obtain ⟨e1, e2⟩ := quoZ_wrap h1 h
    go_enter Tryz.func16, Tryz.ntmps16
    go_wp2
    go_ret
    exact ⟨rfl, rfl⟩

set_option maxRecDepth 100000 in
theorem ref_quorum (x : Int) (w : World) (h : x ≤ 9223372036854775807) :
    Calls Tryz.prog 17 #[.int .i64 x] w fun e w' => e = .returned (.int .i64 (quoZ x)) ∧ w = w' := by
  unfold quoZ
  by_cases h1 : x < 1
  · rw [if_pos h1]
    go_enter Tryz.func17, Tryz.ntmps17
    go_wp2
    go_ret
    exact ⟨rfl, rfl⟩
  · rw [if_neg h1]
    obtain ⟨e1, e2⟩ := quoZ_wrap h1 h
    go_enter Tryz.func17, Tryz.ntmps17
    go_wp2
    go_ret
    exact ⟨rfl, rfl⟩
end Go.Proofs.YtmfidemkmmbioaaGreat
