/- Merged texts: NPY NPW NPB NPE NPF NPG Loud. -/
import Derived.Test.YthdpajgnigilhaaQ5
import Derived.Test.YthdpajgnigilhaaQ6
import Derived.StillTail
/- net's Net as a whole: Peek; a place that is not there, be it below 0; Delay of any times. -/
namespace Go.Proofs.Ythdpajgnigilhaa
open Go.RowKit Go.Conc

set_option maxRecDepth 100000 in
theorem net_find_neg (nb base : Nat) (v : Value) (l : List Nd) (seq k : Int) (cu ch : Value) (w : World) (h : NetI nb base v l seq cu ch w) (hk : k < 0) :
    Calls Try.prog 35 #[.pointer (some ⟨nb, 0, none⟩), .int .i64 k] w fun e w' => e = .returned (.int .i64 (-1)) ∧ w' = w := by
  obtain ⟨q, d, hv⟩ := owns_slice h.h.2.2.1
  have hc := h.h.1
  rw [hv] at hc
  have d0 : decide (k < 0) = true := decide_eq_true hk
  clear h hv
  generalize l.length = n at *
  go_enter Try.func35, Try.ntmps35
  go_wp2
  go_ret
  exact ⟨rfl, rfl⟩

section
variable {base nb : Nat} {S : List Nd} {seq : Int} {cu : Value} {m : Option Nat} {ob : Obj} {F : Nat → Prop} {w : World}

theorem nt_find_i (k : Int) (h : Nt base nb S seq cu m ob F w) (hk : k < 0 ∨ (S.length : Int) ≤ k) : Calls Try.prog 35 #[.pointer (some ⟨nb, 0, none⟩), .int .i64 k] w fun e w' => e = .returned (.int .i64 (-1)) ∧ w' = w := by
  rcases Int.lt_or_le k 0 with h0 | h0
  · obtain ⟨v, ch, l, hI, hp, _⟩ := h
    exact net_find_neg nb base v l seq k cu ch w hI h0
  · obtain ⟨k', rfl⟩ := Int.eq_ofNat_of_zero_le h0
    exact nt_find_no k' h (by omega)

set_option maxRecDepth 100000 in
theorem nt_pull_i (k : Int) (h : Nt base nb S seq cu m ob F w) (hk : k < 0 ∨ (S.length : Int) ≤ k) :
    Calls Try.prog 25 #[.pointer (some ⟨nb, 0, none⟩), .int .i64 k] w fun e w' => e = .returned (.tuple #[pkv 0 0 ByteArray.empty, .bool false]) ∧ Below w.heap.size w w' := by
  have HF := Lib.hid (fun o => nt_find_i k (h.keep ((Fr.refl (fun _ => False) w).alloc o) (fun _ _ h => h) (fun _ _ h => h)) hk)
  clear h
  go_enter Try.func25, Try.ntmps25
  go_wp2_with fail
  refine (HF.out _).mono ?_
  rintro e w1 ⟨rfl, rfl⟩
  go_wp2
  exact bodyPost_ret (v := .tuple #[pkv 0 0 ByteArray.empty, .bool false]) (by simp [results, Try.results25, go_sem, pkv]; rfl) rfl ⟨rfl, by repeat (first | exact Below.refl _ _ | refine Below.drew ?_ | refine Below.alloc ?_ (by simp) _ | refine Below.setCell ?_ (by simp) _)⟩

set_option maxRecDepth 100000 in
theorem nt_drop_i (k : Int) (h : Nt base nb S seq cu m ob F w) (hk : k < 0 ∨ (S.length : Int) ≤ k) :
    Calls Try.prog 12 #[.pointer (some ⟨nb, 0, none⟩), .int .i64 k] w fun e w' => e = .returned (.bool false) ∧ Below w.heap.size w w' := by
  have HP := Lib.hid (nt_pull_i k h hk)
  clear h
  go_enter Try.func12, Try.ntmps12
  go_wp2_with fail
  refine HP.out.mono ?_
  rintro e w1 ⟨rfl, hb⟩
  have HB := Lib.hid hb
  clear hb
  unfold pkv
  go_wp2
  go_ret
  exact ⟨rfl, HB.out.alloc HB.out.size _⟩

set_option maxRecDepth 100000 in
theorem nt_double_i (k : Int) (h : Nt base nb S seq cu m ob F w) (hk : k < 0 ∨ (S.length : Int) ≤ k) :
    Calls Try.prog 16 #[.pointer (some ⟨nb, 0, none⟩), .int .i64 k] w fun e w' => e = .returned (.bool false) ∧ Below w.heap.size w w' := by
  have HF := Lib.hid (nt_find_i k h hk)
  clear h
  go_enter Try.func16, Try.ntmps16
  go_wp2_with fail
  refine HF.out.mono ?_
  rintro e w1 ⟨rfl, rfl⟩
  go_wp2
  go_ret
  exact ⟨rfl, Below.refl _ _⟩

/-- Double of a net that is full. -/
theorem nt_double_full (k : Nat) (h : Nt base nb S seq cu m ob F w) (hk : k < S.length) (hfull : 600 ≤ S.length) :
    Calls Try.prog 16 #[.pointer (some ⟨nb, 0, none⟩), .int .i64 k] w fun e w' => e = .returned (.bool false) ∧ Below w.heap.size w w' := by
  obtain ⟨v, ch, l, hI, hp, hch, hcw, hmF, hge, hb, rfl⟩ := h
  have hl : k < l.length := by rw [hp.length_eq]; exact hk
  have hl6 : 600 ≤ l.length := by rw [hp.length_eq]; exact hfull
  have HF := Lib.hid (net_find nb base v l seq k cu ch w hI hl)
  obtain ⟨g, cap, hv, -, hg, -⟩ := owns_len hI.h.2.2.1 (by omega)
  have hlt := cell_lt hI.c1
  have hv0 := hI.h.1
  rw [hv] at hv0
  clear hI hch hcw hmF hge hb hp hv hfull hk
  go_enter Try.func16, Try.ntmps16
  go_wp2_with fail
  refine HF.out.mono ?_
  rintro e w1 ⟨i, ts, rfl, hi, hts, hsd, hel, hb1⟩
  have HB1 := Lib.hid hb1
  have hi0 : ¬ (i : Int) < 0 := by omega
  have hfull : (600 : Int) ≤ l.length := by omega
  have hv1 : w1.cell? ⟨nb, 0, none⟩ = some (.slice (some ⟨g, 0, none⟩) l.length cap) := (hb1.cell (p := ⟨nb, 0, none⟩) hlt).trans hv0
  clear hts hsd hel hb1 hv0
  go_wp2
  go_ret
  exact ⟨rfl, HB1.out⟩

set_option maxRecDepth 100000 in
theorem nt_delay_i (k by' : Int) (h : Nt base nb S seq cu m ob F w) (hk : k < 0 ∨ (S.length : Int) ≤ k) :
    Calls Try.prog 17 #[.pointer (some ⟨nb, 0, none⟩), .int .i64 k, .int .i64 by'] w fun e w' => e = .returned (.bool false) ∧ Below w.heap.size w w' := by
  have HF := Lib.hid (nt_find_i k h hk)
  clear h
  go_enter Try.func17, Try.ntmps17
  go_wp2_with fail
  refine HF.out.mono ?_
  rintro e w1 ⟨rfl, rfl⟩
  go_wp2
  go_ret
  exact ⟨rfl, Below.refl _ _⟩

/-- Delay by less than nothing. -/
theorem nt_delay_neg (k : Nat) (by' : Int) (h : Nt base nb S seq cu m ob F w) (hk : k < S.length) (hy : by' < 0) :
    Calls Try.prog 17 #[.pointer (some ⟨nb, 0, none⟩), .int .i64 k, .int .i64 by'] w fun e w' => e = .returned (.bool false) ∧ Below w.heap.size w w' := by
  obtain ⟨v, ch, l, hI, hp, hch, hcw, hmF, hge, hb, rfl⟩ := h
  have hl : k < l.length := by rw [hp.length_eq]; exact hk
  have HF := Lib.hid (net_find nb base v l seq k cu ch w hI hl)
  clear hI hch hcw hmF hge hb hp hk
  go_enter Try.func17, Try.ntmps17
  go_wp2_with fail
  refine HF.out.mono ?_
  rintro e w1 ⟨i, ts, rfl, hi, hts, hsd, hel, hb1⟩
  have HB1 := Lib.hid hb1
  have hi0 : ¬ (i : Int) < 0 := by omega
  clear hts hsd hel hb1
  go_wp2
  go_ret
  exact ⟨rfl, HB1.out⟩

set_option maxHeartbeats 1000000 in
set_option maxRecDepth 100000 in
theorem nt_peek_i (k : Int) (h : Nt base nb S seq cu m ob F w) (hk : k < 0 ∨ (S.length : Int) ≤ k) :
    Calls Try.prog 30 #[.pointer (some ⟨nb, 0, none⟩), .int .i64 k] w fun e w' => e = .returned (.tuple #[pkv 0 0 ByteArray.empty, .bool false]) ∧ Below w.heap.size w w' := by
  have HF := Lib.hid (fun o => nt_find_i k (h.keep ((Fr.refl (fun _ => False) w).alloc o) (fun _ _ h => h) (fun _ _ h => h)) hk)
  clear h
  go_enter Try.func30, Try.ntmps30
  go_wp2_with fail
  refine (HF.out _).mono ?_
  rintro e w1 ⟨rfl, rfl⟩
  go_wp2
  exact bodyPost_ret (v := .tuple #[pkv 0 0 ByteArray.empty, .bool false]) (by simp [results, Try.results30, go_sem, pkv]; rfl) rfl ⟨rfl, by repeat (first | exact Below.refl _ _ | refine Below.drew ?_ | refine Below.alloc ?_ (by simp) _ | refine Below.setCell ?_ (by simp) _)⟩

set_option maxHeartbeats 1000000 in
set_option maxRecDepth 100000 in
theorem nt_peek (k : Nat) (h : Nt base nb S seq cu m ob F w) (hk : k < S.length) :
    Calls Try.prog 30 #[.pointer (some ⟨nb, 0, none⟩), .int .i64 k] w fun e w' => ∃ ts : List Nd, e = .returned (.tuple #[pkv (HL.el ts k).fr (HL.el ts k).to (HL.el ts k).da, .bool true]) ∧ ts.Perm S ∧ SortedD ts ∧ Below w.heap.size w w' := by
  obtain ⟨v, ch, l, hI, hp, hch, hcw, hmF, hge, hb, rfl⟩ := h
  have hl : k < l.length := by rw [hp.length_eq]; exact hk
  have HF := Lib.hid (fun W (hI : NetI nb base v l seq cu ch W) => net_find nb base v l seq k cu ch W hI hl)
  have HI0 := Lib.hid hI
  have HP := Lib.hid hp
  obtain ⟨g, cap, hv, -, hg, -⟩ := owns_len hI.h.2.2.1 (by omega)
  subst hv
  have hlt := cell_lt hI.c1
  have hgl : g < w.heap.size := (hI.h.2.2.1.lt g rfl).2
  have hv0 := hI.h.1
  clear hI hch hcw hmF hge hb hp hk
  have UC : Hid (∀ W, W = w.alloc (.cells #[.int .i64 0, .int .i64 0, .string ⟨#[]⟩] 34) → W.cell? ⟨w.heap.size, 0, none⟩ = some (.int .i64 0) ∧ W.cell? ⟨w.heap.size, 1, none⟩ = some (.int .i64 0) ∧ W.cell? ⟨w.heap.size, 2, none⟩ = some (.string ⟨#[]⟩) ∧ ∀ k, W.frozen? ⟨w.heap.size, k, none⟩ = false) := Lib.hid (by rintro W rfl; clear hv0; exact ⟨by go_simp, by go_simp, by go_simp, fun k => by go_simp⟩)
  go_enter Try.func30, Try.ntmps30
  go_wp2_with fail
  refine (HF.out _ (HI0.out.keep ((Fr.refl (fun _ => False) w).alloc _) (fun _ _ h => h))).mono ?_
  rintro e X ⟨i, ts, rfl, hi, hts, hsd, hel, hb1⟩
  have hU := UC.out _ rfl
  have hl0 : w.heap.size < (w.alloc (.cells #[.int .i64 0, .int .i64 0, .string ⟨#[]⟩] 34)).heap.size := by simp
  have u0 := (hb1.cell (p := ⟨w.heap.size, 0, none⟩) hl0).trans hU.1
  have u1 := (hb1.cell (p := ⟨w.heap.size, 1, none⟩) hl0).trans hU.2.1
  have u2 := (hb1.cell (p := ⟨w.heap.size, 2, none⟩) hl0).trans hU.2.2.1
  have f0 := (hb1.frozen (p := ⟨w.heap.size, 0, none⟩) hl0).trans (hU.2.2.2 _)
  have f1 := (hb1.frozen (p := ⟨w.heap.size, 1, none⟩) hl0).trans (hU.2.2.2 _)
  have f2 := (hb1.frozen (p := ⟨w.heap.size, 2, none⟩) hl0).trans (hU.2.2.2 _)
  have HBW : Hid (Below w.heap.size w X) := Lib.hid (((Below.refl _ w).alloc (Nat.le_refl _) _).trans (hb1.mono (by simp)))
  have hzX : w.heap.size < X.heap.size := by have := hb1.size; omega
  have hIX := HI0.out.keep (Fr.of_all (S := fun _ => False) HBW.out) (fun _ _ h => h)
  have hx := hIX.h.cells rfl i hi
  have hvX := hIX.h.1
  have hgX : g < X.heap.size := by omega
  have HEL := Lib.hid hel
  have HTS := Lib.hid (And.intro hts hsd)
  have hi0 : ¬ (i : Int) < 0 := by omega
  have hiI : (i : Int) < (l.length : Int) := by omega
  clear hb1 hU hel hts hsd hIX hv0
  obtain ⟨x, hxe⟩ : ∃ x, HL.el l i = x := ⟨_, rfl⟩
  rw [hxe] at hx HEL
  obtain ⟨xf, xt, xd, xa, xs⟩ := x
  obtain ⟨x0, x1, x2, -, -⟩ := hx
  simp only at x0 x1 x2
  clear hxe
  have hx3 := cells3n (v0 := .int .i64 xf) (v1 := .int .i64 xt) (v2 := .string xd) u0 u1 u2
  obtain ⟨Y, hY⟩ : ∃ Y, ((X.setCell ⟨w.heap.size, 0, none⟩ (.int .i64 xf)).setCell ⟨w.heap.size, 1, none⟩ (.int .i64 xt)).setCell ⟨w.heap.size, 2, none⟩ (.string xd) = Y := ⟨_, rfl⟩
  rw [hY] at hx3
  obtain ⟨g0, g1, g2⟩ := hx3
  have HBY : Hid (Below w.heap.size w Y) := Lib.hid (by rw [← hY]; exact ((HBW.out.setCell (p := ⟨w.heap.size, 0, none⟩) (Nat.le_refl _) _).setCell (p := ⟨w.heap.size, 1, none⟩) (Nat.le_refl _) _).setCell (p := ⟨w.heap.size, 2, none⟩) (Nat.le_refl _) _)
  generalize l.length = n at *
  go_wp2
  refine bodyPost_ret (v := .tuple #[pkv xf xt xd, .bool true]) (by simp [results, Try.results30, go_sem, pkv, g0, g1, g2]) rfl ⟨ts, ?_, HTS.out.1.trans HP.out, HTS.out.2, HBY.out⟩
  rw [← HEL.out]

set_option maxHeartbeats 4000000 in
set_option maxRecDepth 100000 in
theorem nt_delay_g (k : Nat) (by' : Int) (h : Nt base nb S seq cu m ob F w) (hk : k < S.length) (hat : ∀ y ∈ S, -9223372036854775808 ≤ y.at' ∧ y.at' ≤ 9223372036854775807) (hy0 : 0 ≤ by') (hy : by' ≤ 9223372036854775807) (hsl : S.length ≤ 1000) (hs0 : 0 ≤ seq) (hs : seq ≤ 500000) :
    Calls Try.prog 17 #[.pointer (some ⟨nb, 0, none⟩), .int .i64 k, .int .i64 by'] w fun e w' => e = .returned (.bool true) ∧ ∃ (x : Nd) (ts : List Nd), ts.Perm S ∧ SortedD ts ∧ x = HL.el ts k ∧
      ∃ S1 F', (x :: S1).Perm S ∧ Nt base nb (S1 ++ [⟨x.fr, x.to, x.da, later x.at' by', seq + 1⟩]) (seq + 1) cu m ob F' w' ∧ Step F F' w w' := by
  obtain ⟨v, ch, l, hI, hp, hch, hcw, hmF, hge, hb, rfl⟩ := h
  have hl : k < l.length := by rw [hp.length_eq]; exact hk
  have hl6 : l.length ≤ 1000 := by rw [hp.length_eq]; exact hsl
  have HF := Lib.hid (net_find nb base v l seq k cu ch w hI hl)
  have HR0 := Lib.hid (fun (i : Nat) (hn : i < l.length) W (hI : NetI nb base v l seq cu ch W) => heap_remove_nets nb 0 base v l i W hI.h hI.hp hn)
  have HE := Lib.hid (fun (S1 : List Nd) (_ w' : World) (v' : Value) (l' : List Nd) (hN : NetI nb base v' l' (seq + 1) cu ch w') (hpp : l'.Perm S1) (hF : Fr (netF nb v) w w') (hli : ∀ g, v'.ownBlock = some g → Lies v g w.heap.size) =>
    nt_step hI hch hcw hmF hge hb hN hpp hF hli)
  have HAT : Hid (∀ i, i < l.length → -9223372036854775808 ≤ (HL.el l i).at' ∧ (HL.el l i).at' ≤ 9223372036854775807) := Lib.hid (fun i hi => hat _ (hp.mem_iff.1 (HL.el_mem l i hi)))
  have HP := Lib.hid hp
  have HI := Lib.hid hI
  have hlt := cell_lt hI.c1
  have hta := ta_wt
  have hyn : ¬ by' < 0 := by omega
  clear hI hch hcw hmF hge hb hp hk hat hsl
  go_enter Try.func17, Try.ntmps17
  go_wp2_with fail
  refine HF.out.mono ?_
  rintro e w1 ⟨i, ts, rfl, hi, hts, hsd, hel, hb1⟩
  have hi0 : ¬ (i : Int) < 0 := by omega
  have HTS := Lib.hid (And.intro hts (And.intro hsd hel))
  have HB1 := Lib.hid hb1
  have HI1 := Lib.hid (HI.out.keep (Fr.of_all (S := fun _ => False) hb1) (fun _ _ h => h))
  have HRM := Lib.hid (HR0.out i hi w1 HI1.out)
  have hxa := HAT.out i hi
  clear hts hsd hel hb1 HR0
  obtain ⟨x, hxe⟩ : ∃ x, HL.el l i = x := ⟨_, rfl⟩
  rw [hxe] at HRM hxa
  have HXE := Lib.hid hxe
  clear hxe
  go_wp2_with fail
  refine HRM.out.mono ?_
  rintro e w2 ⟨u, rfl, v', l', rfl, hI2, hh, hp2, hfr, hv', hoth⟩
  have HN2 : Hid (NetI nb base v' l' seq cu ch w2) := Lib.hid ⟨hI2, (hoth 1 (by omega)).1.trans HI1.out.c1, (hoth 1 (by omega)).2.trans HI1.out.f1, (hoth 2 (by omega)).1.trans HI1.out.c2, (hoth 2 (by omega)).2.trans HI1.out.f2, (hoth 3 (by omega)).1.trans HI1.out.c3, (hoth 3 (by omega)).2.trans HI1.out.f3, hh⟩
  have HFR := Lib.hid (Fr.trans (Fr.of_all (S := netF nb v) HB1.out) hfr (fun i hi _ => hi))
  have HV' := Lib.hid hv'
  have HP2 := Lib.hid hp2
  have hll : l'.length < 1000000 := by have := hp2.length_eq; simp at this; omega
  have hnb2 : nb ≠ w2.heap.size := by have := HFR.out.size; omega
  have HFIN : Hid (∀ W w4 v3 l3, Fr (fun _ => False) w2 W → NetI nb base v3 l3 (seq + 1) cu ch w4 → l3.Perm (l' ++ [⟨x.fr, x.to, x.da, later x.at' by', seq + 1⟩]) → Fr (netF nb v') W w4 → (∀ g, v3.ownBlock = some g → Lies v' g W.heap.size) → ∃ F', Nt base nb (l' ++ [⟨x.fr, x.to, x.da, later x.at' by', seq + 1⟩]) (seq + 1) cu m ob F' w4 ∧ Step (sendS nb v ch) F' w w4) := Lib.hid (fun W w4 v3 l3 hFA hN hpp hFr hli => by
    have HFW : Fr (netF nb v) w w4 := Fr.trans (Fr.trans HFR.out (hFA.mono (fun _ _ h => h.elim)) (fun _ h _ => h)) hFr (fun i hi _ => by
      rcases hi with hi | hi
      · exact .inl hi
      · exact .inr (by rw [← HV'.out]; exact hi))
    have hszz : w.heap.size ≤ W.heap.size := Nat.le_trans HFR.out.size hFA.size
    exact HE.out _ w2 w4 v3 l3 hN hpp HFW (fun g hg => by
      rcases hli g hg with h | h
      · exact .inl (by rw [← HV'.out]; exact h)
      · exact .inr (Nat.le_trans hszz h)))
  clear hI2 hh hp2 hfr hv' hoth HRM HI1 HE
  have hcase : 9223372036854775807 - by' < x.at' ∨ ¬ 9223372036854775807 - by' < x.at' := by omega
  rcases hcase with hcmp | hcmp
  · have hla : later x.at' by' = 9223372036854775807 := by unfold later; rw [if_pos hcmp]
    have d0 : decide (9223372036854775807 - by' < x.at') = true := decide_eq_true hcmp
    have hws : IntKind.i64.wrap (9223372036854775807 - by') = 9223372036854775807 - by' := IntWalk.i64_in _ (by omega)
    have hadd : IntKind.i64.wrap (9223372036854775807 - by' + by') = 9223372036854775807 := by rw [show (9223372036854775807 - by' + by' : Int) = 9223372036854775807 by omega]; exact IntWalk.i64_in _ (by omega)
    have hadd2 : (9223372036854775807 - by' + by' : Int) = 9223372036854775807 := by omega
    have hFA : Fr (fun _ => False) w2 (w2.alloc (.cells #[.int .i64 x.fr, .int .i64 x.to, .string x.da, .int .i64 (9223372036854775807 - by'), .int .i64 x.sq] 75)) := (Fr.refl _ w2).alloc _
    have HN3 := Lib.hid (HN2.out.keep hFA (fun _ _ h => h))
    have HPU := Lib.hid (net_push nb base v' l' seq 9223372036854775807 x.fr x.to x.da cu ch _ HN3.out hs0 (by omega) hll)
    have HFA := Lib.hid hFA
    rw [hla] at HFIN
    clear hFA hla hll HN2
    go_wp2_with fail
    refine HPU.out.mono ?_
    rintro e w4 ⟨rfl, v3, l3, hN, hpp, hFr, hli⟩
    have HEND := Lib.hid (HFIN.out _ w4 v3 l3 HFA.out hN hpp hFr hli)
    clear hN hpp hFr hli HPU HFIN
    go_wp2
    go_ret
    obtain ⟨F', hN, hst⟩ := HEND.out
    refine ⟨rfl, x, ts, HTS.out.1.trans HP.out, HTS.out.2.1, by rw [← HXE.out, HTS.out.2.2], l', F', HP2.out.trans HP.out, ?_, hst⟩
    have e : later x.at' by' = 9223372036854775807 := by unfold later; rw [if_pos hcmp]
    rw [e]
    exact hN
  · have hla : later x.at' by' = x.at' + by' := by unfold later; rw [if_neg hcmp]
    have d0 : decide (9223372036854775807 - by' < x.at') = false := decide_eq_false hcmp
    have hws : IntKind.i64.wrap (9223372036854775807 - by') = 9223372036854775807 - by' := IntWalk.i64_in _ (by omega)
    have hadd : IntKind.i64.wrap (x.at' + by') = x.at' + by' := IntWalk.i64_in _ (by omega)
    have hFA : Fr (fun _ => False) w2 (w2.alloc (.cells #[.int .i64 x.fr, .int .i64 x.to, .string x.da, .int .i64 x.at', .int .i64 x.sq] 75)) := (Fr.refl _ w2).alloc _
    have HN3 := Lib.hid (HN2.out.keep hFA (fun _ _ h => h))
    have HPU := Lib.hid (net_push nb base v' l' seq (x.at' + by') x.fr x.to x.da cu ch _ HN3.out hs0 (by omega) hll)
    have HFA := Lib.hid hFA
    rw [hla] at HFIN
    clear hFA hla hll HN2
    go_wp2_with fail
    refine HPU.out.mono ?_
    rintro e w4 ⟨rfl, v3, l3, hN, hpp, hFr, hli⟩
    have HEND := Lib.hid (HFIN.out _ w4 v3 l3 HFA.out hN hpp hFr hli)
    clear hN hpp hFr hli HPU HFIN
    go_wp2
    go_ret
    obtain ⟨F', hN, hst⟩ := HEND.out
    refine ⟨rfl, x, ts, HTS.out.1.trans HP.out, HTS.out.2.1, by rw [← HXE.out, HTS.out.2.2], l', F', HP2.out.trans HP.out, ?_, hst⟩
    have e : later x.at' by' = x.at' + by' := by unfold later; rw [if_neg (by omega)]
    rw [e]
    exact hN
end
end Go.Proofs.Ythdpajgnigilhaa

/- arboretumref22.Net: Cut. -/
namespace Go.Proofs.Ythdpajgnigilhaa
open Go.RowKit

theorem info_pair2 : (Try.prog.info? 82).map (fun i => (i.zero, i.size, i.bytes)) = some (some (.agg #[.int .i64 0, .int .i64 0]), 2, 16) := by kernel_rfl
theorem cp_T : RowT Try.prog 43 82 ccells 2 16 :=
  RowT.of Try.underlying43 info_pair2 rfl (by omega) ccells_length (fun x u hu => by
    simp only [ccells, List.mem_cons, List.not_mem_nil, or_false] at hu
    rcases hu with rfl | rfl <;> rfl) (by omega)
def keepC (a b : Int) (c : Int × Int) : Bool := !(c.1 == lo a b && c.2 == hi a b)
theorem filt_snoc {C : List (Int × Int)} {a b : Int} {i : Nat} (h : i < C.length) : (C.take (i + 1)).filter (keepC a b) = if keepC a b (HL.el C i) = true then (C.take i).filter (keepC a b) ++ [HL.el C i] else (C.take i).filter (keepC a b) := by
  rw [take_snoc h, List.filter_append]
  by_cases e : keepC a b (HL.el C i) = true
  · rw [if_pos e]; simp [e]
  · rw [if_neg e]; simp [e]

/-- The net with another list of cuts. -/
theorem RNI.cuts {rb base n5 : Nat} {v1 v2 v5 : Value} {L : List St} {C C' : List (Int × Int)} {w W : World} (hI : RNI rb base v1 v2 L C w) (hb : Below w.heap.size w W) (ho : W.ownsRow w.heap.size 82 2 v5 n5 (rowOf ccells C')) (hl : C'.length = n5) :
    RNI rb base v1 v5 L C' (W.setCell ⟨rb, 1, none⟩ v5) ∧ Fr (fun k => k = rb) w (W.setCell ⟨rb, 1, none⟩ v5) ∧ ∀ g, v5.ownBlock = some g → w.heap.size ≤ g := by
  subst hl
  have hlt := cell_lt hI.c0
  have hF0 : Fr (fun _ => False) w W := Fr.of_all hb
  have hI5 := hI.keep hF0 (fun _ _ h => h)
  have hF : Fr (fun k => k = rb) W (W.setCell ⟨rb, 1, none⟩ v5) := (Fr.refl (fun k => k = rb) W).setCell (p := ⟨rb, 1, none⟩) (fun _ => rfl) _
  have hbs := hb.size
  have hne : ∀ g, v5.ownBlock = some g → g ≠ rb := fun g hg e => by
    have h1 := (ho.lt g hg).1
    have h3 : rb < w.heap.size := hlt
    omega
  have hbase := hI.bs
  refine ⟨⟨?_, by rw [frozen_set]; exact hI5.f0, cell_set_same _ _ _ _ hI5.c1, by rw [frozen_set]; exact hI5.f1, hF.owns hI5.o1 (fun g hg e => hI.n1 (by rw [hg, e])), owns_less (hF.owns ho (fun g hg => hne g hg)) (by omega), hI.n1, fun h => hne rb h rfl, Nat.le_trans hI5.bs hF.size⟩, Fr.trans (hF0.mono (fun _ _ h => h.elim)) hF (fun i hi _ => hi), fun g hg => (ho.lt g hg).1⟩
  rw [World.cell?_setCell_other _ _ _ _ (by simp)]; exact hI5.c0

theorem rd_newC (w : World) (x y : Int) (t : TypeId) : RdG ccells (w.alloc (.cells #[.int .i64 x, .int .i64 y] t)) (w.alloc (.cells #[.int .i64 x, .int .i64 y] t)).heap.size (some ⟨w.heap.size, 0, none⟩) 1 [(x, y)] := by
  have e := RdG.fresh (f := ccells) w [(x, y)] t
  exact RdG.more e (by simp)

set_option maxHeartbeats 4000000 in
set_option maxRecDepth 100000 in
theorem rn_cutset {rb base : Nat} {v1 v2 : Value} {L : List St} {C : List (Int × Int)} {w : World} (h : RNI rb base v1 v2 L C w) (hC : C.length ≤ 10000) (a b : Int) (on : Bool) :
    Calls Try.prog 29 #[.pointer (some ⟨rb, 0, none⟩), .int .i64 a, .int .i64 b, .bool on] w fun e w' => e = .returned (.tuple #[]) ∧ ∃ v', RNI rb base v1 v' L (cutC C a b on) w' ∧ Fr (fun k => k = rb) w w' ∧ ∀ g, v'.ownBlock = some g → w.heap.size ≤ g := by
  obtain ⟨p2, c2, hv2⟩ := owns_slice h.o2
  have HR : Hid (RdG ccells w w.heap.size p2 C.length C) := Lib.hid (RdG.of_own (by rw [← hv2]; exact h.o2) rfl)
  have hc1 := h.c1
  rw [hv2] at hc1
  have hrl : rb < w.heap.size := cell_lt hc1
  have H := Lib.hid h
  clear h hv2
  have hqa := run_neA
  go_enter Try.func29, Try.ntmps29
  go_wp2
  go_loopw [8, 9] (fun ov iv wr => ∃ i m : Nat, i ≤ C.length ∧ iv = .int .i64 i ∧ Hid (((C.take i).filter (keepC a b)).length = m ∧ wr.ownsRow w.heap.size 82 2 ov m (rowOf ccells ((C.take i).filter (keepC a b)))) ∧ Hid (Below w.heap.size w wr)) (fun _ iv _ => C.length - (intOf iv).toNat)
  case atStart => exact ⟨0, 0, Nat.zero_le _, rfl, Lib.hid ⟨by simp, by simpa [rowOf] using World.ownsRow_nil _ _ _ _⟩, Lib.hid (Below.refl _ _)⟩
  case round =>
    obtain ⟨i, m, hi', rfl, HO, HB⟩ := hrel
    have hsz := HB.out.size
    have hrlw : rb < wr.heap.size := by omega
    have hm : m ≤ 10000 := by
      have h1 := HO.out.1
      have h2 := List.length_filter_le (keepC a b) (C.take i)
      rw [List.length_take] at h2
      omega
    obtain ⟨op, oc, hov⟩ := owns_slice HO.out.2
    subst hov
    by_cases hlt : i < C.length
    · have hltI : (i : Int) < (C.length : Int) := by omega
      obtain ⟨g, o, rfl, hg, hc⟩ := HR.out.el ccells_length i hlt
      have x0 := (HB.out.cell (p := ⟨g, o + i * 2, none⟩) hg).trans (hc 0 _ rfl)
      have x1 := (HB.out.cell (p := ⟨g, o + i * 2 + 1, none⟩) hg).trans (hc 1 _ rfl)
      have hgw : g < wr.heap.size := by omega
      have HF := Lib.hid (filt_snoc (a := a) (b := b) hlt)
      have hkp : Hid (∀ x, HL.el C i = x → keepC a b x = !(x.1 == lo a b && x.2 == hi a b)) := Lib.hid (fun x _ => rfl)
      generalize hx : HL.el C i = x at *
      have hkx := hkp.out x rfl
      obtain ⟨z1, z2⟩ := x
      simp only at x0 x1 hkx
      clear hc hkp hx
      have y1 : ∀ q : Later wr, q.1.cell? ⟨rb, 1, none⟩ = some (.slice (some ⟨g, o, none⟩) C.length c2) := fun q => (q.2.cell (p := ⟨rb, 1, none⟩) hrlw).trans ((HB.out.cell (p := ⟨rb, 1, none⟩) hrl).trans hc1)
      have q0 : ∀ q : Later wr, q.1.cell? ⟨g, o + i * 2, none⟩ = some (.int .i64 z1) := fun q => (q.2.cell (p := ⟨g, o + i * 2, none⟩) hgw).trans x0
      have q1 : ∀ q : Later wr, q.1.cell? ⟨g, o + i * 2 + 1, none⟩ = some (.int .i64 z2) := fun q => (q.2.cell (p := ⟨g, o + i * 2 + 1, none⟩) hgw).trans x1
      have HEN : Hid (∀ W, Calls Try.prog 41 #[.int .i64 a, .int .i64 b] W fun e w' => e = .returned (.agg #[.int .i64 (lo a b), .int .i64 (hi a b)]) ∧ Below W.heap.size W w') := Lib.hid (fun W => rn_ends a b W)
      have FIN : Hid (∀ W, Below wr.heap.size wr W → Below w.heap.size w W ∧ W.ownsRow w.heap.size 82 2 (.slice op m oc) m (rowOf ccells ((C.take i).filter (keepC a b)))) := Lib.hid (fun W hW => ⟨HB.out.trans (hW.mono HB.out.size), (Fr.of_all (S := fun _ => False) hW).owns HO.out.2 (fun _ _ h => h)⟩)
      have HM := Lib.hid HO.out.1
      clear x0 x1 HO
      generalize hr : (z1 == lo a b && z2 == hi a b) = r at *
      have hqr : (!r) = keepC a b (z1, z2) := hkx.symm
      have HKR := Lib.hid hkx
      have hqa' : ∀ W : World, (binOp .neq 82 (.agg #[.int .i64 z1, .int .i64 z2]) (.agg #[.int .i64 (lo a b), .int .i64 (hi a b)])).run Try.prog W = .ok (.bool (!r)) W := fun W => by rw [run_neA, hr]
      have y0 : wr.cell? ⟨rb, 1, none⟩ = some (.slice (some ⟨g, o, none⟩) C.length c2) := y1 ⟨wr, Below.refl _ _⟩
      clear hqa hr hqr hkx
      go_wp2_with fail
      refine wp_region_later (by kernel_rfl) (by kernel_rfl) ?_
      repeat (go_big_quiet_step (first | (go_at_call 41; exact Calls.later_of (HEN.out _))))
      refine wpQuiet_nil ?_
      intro wz hw'
      obtain ⟨⟨wq, hq⟩, hw''⟩ := hw'
      have hwz : wz = wq := hw''
      clear hw''
      subst hwz
      have HQ2 := Lib.hid (FIN.out _ hq)
      have t1 : wz.cell? ⟨rb, 1, none⟩ = some (.slice (some ⟨g, o, none⟩) C.length c2) := y1 ⟨wz, hq⟩
      have t2 : wz.cell? ⟨g, o + i * 2, none⟩ = some (.int .i64 z1) := q0 ⟨wz, hq⟩
      have t3 : wz.cell? ⟨g, o + i * 2 + 1, none⟩ = some (.int .i64 z2) := q1 ⟨wz, hq⟩
      clear hq y1 y0 q0 q1 HB FIN
      cases r with
      | true =>
        have HE : Hid ((C.take (i + 1)).filter (keepC a b) = (C.take i).filter (keepC a b)) := Lib.hid (by rw [HF.out, if_neg (by rw [HKR.out]; simp)])
        clear HF HKR t1 t2 t3
        go_wp2
        go_roundw
        case rel => exact ⟨i + 1, m, by omega, by go_num, Lib.hid (by rw [HE.out]; exact ⟨HM.out, HQ2.out.2⟩), Lib.hid HQ2.out.1⟩
        case measure => simp [intOf]; omega
      | false =>
        have HE : Hid ((C.take (i + 1)).filter (keepC a b) = (C.take i).filter (keepC a b) ++ [(z1, z2)]) := Lib.hid (by rw [HF.out, if_pos (by rw [HKR.out]; simp)])
        clear HF HKR
        have hwl := HQ2.out.1.size
        go_wp2_with (at_builtin; refine RowT.app cp_T rfl _ _ rfl w.heap.size (.slice op m oc) m (rowOf ccells ((C.take i).filter (keepC a b))) rfl (HQ2.out.2.alloc _) (m := 1) (zs := [(z1, z2)]) rfl (rd_newC wz z1 z2 _) (fun h => by cases h) (by omega) (by simp; omega) ?_; intro v4 w4 hown4 hgr4 _; have HO4 : Hid (((C.take (i + 1)).filter (keepC a b)).length = m + 1 ∧ w4.ownsRow w.heap.size 82 2 v4 (m + 1) (rowOf ccells ((C.take (i + 1)).filter (keepC a b)))) := Lib.hid (by rw [HE.out, rowOf_append, List.length_append, HM.out]; exact ⟨rfl, hown4⟩); have HB4 := Lib.hid ((HQ2.out.1.alloc hwl (.cells #[.int .i64 z1, .int .i64 z2] 82)).grown hgr4 (by simp; omega) (fun j hj => (HQ2.out.2.lt j hj).1)); clear hown4 hgr4)
        clear t1 t2 t3
        go_wp2
        go_roundw
        case rel => exact ⟨i + 1, m + 1, by omega, by go_num, HO4, HB4⟩
        case measure => simp [intOf]; omega
    · obtain rfl : i = C.length := by omega
      have HO2 : Hid ((C.filter (keepC a b)).length = m ∧ wr.ownsRow w.heap.size 82 2 (.slice op m oc) m (rowOf ccells (C.filter (keepC a b)))) := Lib.hid (by have e := HO.out; rw [List.take_length] at e; exact e)
      have t1 : wr.cell? ⟨rb, 1, none⟩ = some (.slice p2 C.length c2) := (HB.out.cell (p := ⟨rb, 1, none⟩) hrl).trans hc1
      have f1 : wr.frozen? ⟨rb, 1, none⟩ = false := ((Fr.of_all (S := fun _ => False) HB.out).frozen (p := ⟨rb, 1, none⟩) hrl (fun h => h)).trans H.out.f1
      clear HO hqa
      cases on with
      | false =>
        have HEND := Lib.hid (H.out.cuts (C' := cutC C a b false) HB.out (by show wr.ownsRow _ _ _ _ _ (rowOf ccells (C.filter (keepC a b) ++ [])); rw [List.append_nil]; exact HO2.out.2) (by show (C.filter (keepC a b) ++ []).length = m; rw [List.append_nil]; exact HO2.out.1))
        go_wp2
        go_end0
        exact ⟨rfl, _, HEND.out⟩
      | true =>
        have HEN : Hid (∀ W, Calls Try.prog 41 #[.int .i64 a, .int .i64 b] W fun e w' => e = .returned (.agg #[.int .i64 (lo a b), .int .i64 (hi a b)]) ∧ Below W.heap.size W w') := Lib.hid (fun W => rn_ends a b W)
        generalize hlo : lo a b = z1 at *
        generalize hhi : hi a b = z2 at *
        have HLH := Lib.hid (And.intro hlo hhi)
        clear hlo hhi
        go_wp2_with fail
        refine (HEN.out _).mono ?_
        rintro e wz ⟨rfl, hbz⟩
        have HBZ := Lib.hid (HB.out.trans (hbz.mono HB.out.size))
        have HOZ := Lib.hid ((Fr.of_all (S := fun _ => False) hbz).owns HO2.out.2 (fun _ _ h => h))
        have hwl := HBZ.out.size
        clear hbz
        go_wp2_with (at_builtin; refine RowT.app cp_T rfl _ _ rfl w.heap.size (.slice op m oc) m (rowOf ccells (C.filter (keepC a b))) rfl (HOZ.out.alloc _) (m := 1) (zs := [(z1, z2)]) rfl (rd_newC wz z1 z2 _) (fun h => by cases h) (by omega) (by simp; omega) ?_; intro v4 w4 hown4 hgr4 _; obtain ⟨p4, c4, hv4⟩ := owns_slice hown4; subst hv4; have HB4 : Hid (Below w.heap.size w w4) := Lib.hid ((HBZ.out.alloc hwl (.cells #[.int .i64 z1, .int .i64 z2] 82)).grown hgr4 (by simp; omega) (fun j hj => (HOZ.out.lt j hj).1)); have HO4 : Hid (w4.ownsRow w.heap.size 82 2 (.slice p4 (m + 1) c4) (m + 1) (rowOf ccells (C.filter (keepC a b)) ++ rowOf ccells [(z1, z2)])) := Lib.hid hown4; have t4 : w4.cell? ⟨rb, 1, none⟩ = some (.slice p2 C.length c2) := (HB4.out.cell (p := ⟨rb, 1, none⟩) hrl).trans hc1; have f4 : w4.frozen? ⟨rb, 1, none⟩ = false := ((Fr.of_all (S := fun _ => False) HB4.out).frozen (p := ⟨rb, 1, none⟩) hrl (fun h => h)).trans H.out.f1; clear hown4 hgr4)
        have hEC : cutC C a b true = C.filter (keepC a b) ++ [(z1, z2)] := by
          obtain ⟨h1, h2⟩ := HLH.out
          subst h1 h2
          rfl
        have HEND := Lib.hid (H.out.cuts (C' := cutC C a b true) HB4.out (by rw [hEC, rowOf_append]; exact HO4.out) (by rw [hEC, List.length_append, HO2.out.1]; rfl))
        clear t1 f1 hEC
        go_wp2
        go_end0
        exact ⟨rfl, _, HEND.out⟩
end Go.Proofs.Ythdpajgnigilhaa

/- NetPlays: lists of packets with room behind them; how long they are; alike. -/
namespace Go.Proofs.Ythdpajgnigilhaa
open Go.RowKit

theorem info_pkt : (Try.prog.info? 34).map (fun i => (i.zero, i.size, i.bytes)) = some (some (.agg #[.int .i64 0, .int .i64 0, .string ByteArray.empty]), 3, 32) := by kernel_rfl
theorem pk_T : RowT Try.prog 26 34 pcells 3 32 :=
  RowT.of Try.underlying26 info_pkt rfl (by omega) pcells_length (fun x u hu => by
    simp only [pcells, List.mem_cons, List.not_mem_nil, or_false] at hu
    rcases hu with rfl | rfl | rfl <;> rfl) (by omega)
theorem info_rpk : (Try.prog.info? 60).map (fun i => (i.zero, i.size, i.bytes)) = some (some (.agg #[.int .i64 0, .int .i64 0, .string ByteArray.empty]), 3, 32) := by kernel_rfl
theorem rpk_T : RowT Try.prog 57 60 pcells 3 32 :=
  RowT.of Try.underlying57 info_rpk rfl (by omega) pcells_length (fun x u hu => by
    simp only [pcells, List.mem_cons, List.not_mem_nil, or_false] at hu
    rcases hu with rfl | rfl | rfl <;> rfl) (by omega)
theorem rd_newP (w : World) (x : Pk) (t : TypeId) : RdG pcells (w.alloc (.cells #[.int .i64 x.fr, .int .i64 x.to, .string x.da] t)) (w.alloc (.cells #[.int .i64 x.fr, .int .i64 x.to, .string x.da] t)).heap.size (some ⟨w.heap.size, 0, none⟩) 1 [x] := by
  have e := RdG.fresh (f := pcells) w [x] t
  exact RdG.more e (by simp)

/-- Room, of one size. -/
def roomI (left s : Int) : Int := if left < 0 ∨ left < s then -1 else left - s
set_option maxHeartbeats 1000000 in
set_option maxRecDepth 100000 in
theorem bk_room1 (left s : Int) (b : Nat) (w : World) (hc : w.cell? ⟨b, 0, none⟩ = some (.int .i64 s)) (hs0 : 0 ≤ s) (hl : left ≤ 1000000) :
    Calls Try.prog 37 #[.int .i64 left, .slice (some ⟨b, 0, none⟩) 1 1] w fun e w' => e = .returned (.int .i64 (roomI left s)) ∧ w' = w := by
  have hcase : left < 0 ∨ (0 ≤ left ∧ left < s) ∨ (0 ≤ left ∧ s ≤ left) := by omega
  rcases hcase with h0 | ⟨h0, h1⟩ | ⟨h0, h1⟩
  · have e : roomI left s = -1 := by unfold roomI; rw [if_pos (.inl h0)]
    rw [e]
    have d0 : decide (left < 0) = true := decide_eq_true h0
    clear e
    go_enter Try.func37, Try.ntmps37
    go_wp2
    go_loopw [0, 5] (fun lv iv wr => lv = .int .i64 left ∧ iv = .int .i64 0 ∧ wr = w) (fun _ _ _ => 0)
    case atStart => exact ⟨rfl, rfl, rfl⟩
    case round =>
      obtain ⟨rfl, rfl, rfl⟩ := hrel
      go_wp2
      go_ret
      exact ⟨rfl, rfl⟩
  · have e : roomI left s = -1 := by unfold roomI; rw [if_pos (.inr h1)]
    rw [e]
    have d0 : decide (left < 0) = false := decide_eq_false (by omega)
    have d1 : decide (left < s) = true := decide_eq_true h1
    clear e
    go_enter Try.func37, Try.ntmps37
    go_wp2
    go_loopw [0, 5] (fun lv iv wr => lv = .int .i64 left ∧ iv = .int .i64 0 ∧ wr = w) (fun _ _ _ => 0)
    case atStart => exact ⟨rfl, rfl, rfl⟩
    case round =>
      obtain ⟨rfl, rfl, rfl⟩ := hrel
      go_wp2
      go_ret
      exact ⟨rfl, rfl⟩
  · have e : roomI left s = left - s := by unfold roomI; rw [if_neg (by omega)]
    rw [e]
    have d0 : decide (left < 0) = false := decide_eq_false (by omega)
    have d1 : decide (left < s) = false := decide_eq_false (by omega)
    clear e
    go_enter Try.func37, Try.ntmps37
    go_wp2
    go_loopw [0, 5] (fun lv iv wr => ((lv = .int .i64 left ∧ iv = .int .i64 0) ∨ (lv = .int .i64 (left - s) ∧ iv = .int .i64 1)) ∧ wr = w) (fun _ iv _ => 1 - (intOf iv).toNat)
    case atStart => exact ⟨.inl ⟨rfl, rfl⟩, rfl⟩
    case round =>
      obtain ⟨⟨rfl, rfl⟩ | ⟨rfl, rfl⟩, rfl⟩ := hrel
      · go_wp2
        go_roundw
        case rel => exact ⟨.inr ⟨by first | rfl | (congr 1; exact IntWalk.i64_in _ (by omega)) | go_num, by first | rfl | go_num⟩, by first | rfl | trivial⟩
        case measure => simp [intOf]
      · go_wp2
        go_ret
        exact ⟨rfl, rfl⟩
end Go.Proofs.Ythdpajgnigilhaa

/- NetPlays: lists of packets with room behind them; how long they are; alike. -/
namespace Go.Proofs.Ythdpajgnigilhaa
open Go.RowKit

set_option maxRecDepth 100000 in
theorem run_eqPk (x : Pk) (w : World) : (binOp .eql 34 (pkv x.fr x.to x.da) (pkv x.fr x.to x.da)).run Try.prog w = .ok (.bool true) w := by
  have h := run_eqPkt 9998 ⟨x.fr, x.to, x.da, 0, 0⟩ ⟨x.fr, x.to, x.da, 0, 0⟩ w
  unfold pkv at *
  rw [run_eql_struct, show (10000 : Nat) = 9998 + 1 + 1 from rfl, h]
  simp

set_option maxHeartbeats 1000000 in
set_option maxRecDepth 100000 in
theorem law_same (fr to : Int) (da : ByteArray) (w : World) :
    Calls Try.prog 24 #[pkv fr to da, pkv fr to da] w fun e w' => e = .returned (.bool true) ∧ Below w.heap.size w w' := by
  unfold pkv
  have e1 : (fr == fr) = true := by simp
  have e2 : (to == to) = true := by simp
  have e3 : (da.toList == da.toList) = true := by simp
  generalize hq : (da.toList == da.toList) = r at *
  subst e3
  go_enter Try.func24, Try.ntmps24
  go_wp2
  go_ret
  exact ⟨rfl, by repeat (first | exact Below.refl _ _ | refine Below.drew ?_ | refine Below.alloc ?_ (by simp) _ | refine Below.setCell ?_ (by simp) _)⟩

set_option maxHeartbeats 2000000 in
set_option maxRecDepth 100000 in
theorem bk_same {p q : Option Addr} {n c d : Nat} {zs : List Pk} {w : World} (h : RdG pcells w w.heap.size p n zs) (h2 : RdG pcells w w.heap.size q n zs) (hn : n ≤ 1000) :
    Calls Try.prog 40 #[.slice p n c, .slice q n d] w fun e w' => e = .returned (.bool true) ∧ Below w.heap.size w w' := by
  have H := Lib.hid h
  have H2 := Lib.hid h2
  clear h h2
  have hne : ((n : Int) != (n : Int)) = false := by simp
  go_enter Try.func40, Try.ntmps40
  go_wp2
  go_loopw [5] (fun iv wr => ∃ i : Nat, i ≤ n ∧ iv = .int .i64 i ∧ Hid (Below w.heap.size w wr)) (fun iv _ => n - (intOf iv).toNat)
  case atStart => exact ⟨0, Nat.zero_le _, rfl, Lib.hid (Below.refl _ _)⟩
  case round =>
    obtain ⟨i, hi', rfl, HB⟩ := hrel
    have hsz := HB.out.size
    by_cases hlt : i < n
    · have hltI : (i : Int) < (n : Int) := by omega
      obtain ⟨g, o, rfl, hg, hc⟩ := H.out.el pcells_length i hlt
      obtain ⟨g2, o2, rfl, hg2, hc2⟩ := H2.out.el pcells_length i hlt
      have FIN : Hid (∀ W, Below wr.heap.size wr W → Below w.heap.size w W) := Lib.hid (fun W hW => HB.out.trans (hW.mono HB.out.size))
      have hq := run_eqPk (HL.el zs i)
      generalize HL.el zs i = x at *
      obtain ⟨xf, xt, xd⟩ := x
      have q0 : ∀ q : Later wr, q.1.cell? ⟨g, o + i * 3, none⟩ = some (.int .i64 xf) := fun q => (q.2.cell (p := ⟨g, o + i * 3, none⟩) (by show g < _; omega)).trans ((HB.out.cell (p := ⟨g, o + i * 3, none⟩) hg).trans (hc 0 _ rfl))
      have q1 : ∀ q : Later wr, q.1.cell? ⟨g, o + i * 3 + 1, none⟩ = some (.int .i64 xt) := fun q => (q.2.cell (p := ⟨g, o + i * 3 + 1, none⟩) (by show g < _; omega)).trans ((HB.out.cell (p := ⟨g, o + i * 3 + 1, none⟩) hg).trans (hc 1 _ rfl))
      have q2 : ∀ q : Later wr, q.1.cell? ⟨g, o + i * 3 + 2, none⟩ = some (.string xd) := fun q => (q.2.cell (p := ⟨g, o + i * 3 + 2, none⟩) (by show g < _; omega)).trans ((HB.out.cell (p := ⟨g, o + i * 3 + 2, none⟩) hg).trans (hc 2 _ rfl))
      have r0 : ∀ q : Later wr, q.1.cell? ⟨g2, o2 + i * 3, none⟩ = some (.int .i64 xf) := fun q => (q.2.cell (p := ⟨g2, o2 + i * 3, none⟩) (by show g2 < _; omega)).trans ((HB.out.cell (p := ⟨g2, o2 + i * 3, none⟩) hg2).trans (hc2 0 _ rfl))
      have r1 : ∀ q : Later wr, q.1.cell? ⟨g2, o2 + i * 3 + 1, none⟩ = some (.int .i64 xt) := fun q => (q.2.cell (p := ⟨g2, o2 + i * 3 + 1, none⟩) (by show g2 < _; omega)).trans ((HB.out.cell (p := ⟨g2, o2 + i * 3 + 1, none⟩) hg2).trans (hc2 1 _ rfl))
      have r2 : ∀ q : Later wr, q.1.cell? ⟨g2, o2 + i * 3 + 2, none⟩ = some (.string xd) := fun q => (q.2.cell (p := ⟨g2, o2 + i * 3 + 2, none⟩) (by show g2 < _; omega)).trans ((HB.out.cell (p := ⟨g2, o2 + i * 3 + 2, none⟩) hg2).trans (hc2 2 _ rfl))
      unfold pkv at hq
      simp only at hq
      clear hc hc2 HB
      go_wp2_with fail
      refine wp_region_later (by kernel_rfl) (by kernel_rfl) ?_
      repeat (go_big_quiet_step (fail))
      refine wpQuiet_nil ?_
      intro _ hw'
      obtain ⟨⟨wq, hq2⟩, hw''⟩ := hw'
      subst hw''
      have HQ2 := Lib.hid (FIN.out _ hq2)
      clear hq2 q0 q1 q2 r0 r1 r2 FIN hq
      go_wp2
      go_roundw
      case rel => exact ⟨i + 1, by omega, by go_num, HQ2⟩
      case measure => simp [intOf]; omega
    · obtain rfl : i = n := by omega
      go_wp2
      go_ret
      exact ⟨rfl, HB.out⟩

/-- What small says. -/
def SmallR (zs : List Pk) (n : Nat) (v : Value) : Prop := ∃ b, v = .bool b ∧ (b = true → n ≤ 60 ∧ ∀ k, k < n → (HL.el zs k).da.size ≤ 6000)

set_option maxHeartbeats 2000000 in
set_option maxRecDepth 100000 in
theorem law_small {p : Option Addr} {n c : Nat} {zs : List Pk} {w : World} (h : RdG pcells w w.heap.size p n zs) :
    Calls Try.prog 18 #[.slice p n c] w fun e w' => ∃ v, e = .returned v ∧ SmallR zs n v ∧ Below w.heap.size w w' := by
  have H := Lib.hid h
  clear h
  go_enter Try.func18, Try.ntmps18
  go_wp2
  go_loopw [3, 4] (fun rv iv wr => ∃ (i : Nat) (r : Int), i ≤ n ∧ i ≤ 200 ∧ iv = .int .i64 i ∧ rv = .int .i64 r ∧ -1 ≤ r ∧ r ≤ 6000 ∧ Hid (0 ≤ r → ∀ k, k < i → (HL.el zs k).da.size ≤ 6000) ∧ Hid (Below w.heap.size w wr)) (fun _ iv _ => n - (intOf iv).toNat)
  case atStart => exact ⟨0, 6000, Nat.zero_le _, by omega, rfl, rfl, by omega, by omega, Lib.hid (fun _ k hk => by omega), Lib.hid (Below.refl _ _)⟩
  case round =>
    obtain ⟨i, r, hi', hi2, rfl, rfl, hr0, hr1, HS, HB⟩ := hrel
    have hsz := HB.out.size
    by_cases hlt : i < n
    · have d0 : decide ((i : Int) < (n : Int)) = true := decide_eq_true (by omega)
      by_cases h200 : i < 200
      · have d1 : decide ((i : Int) < 200) = true := decide_eq_true (by omega)
        by_cases hr : 0 ≤ r
        · have d2 : decide (0 ≤ r) = true := decide_eq_true hr
          obtain ⟨g, o, rfl, hg, hc⟩ := H.out.el pcells_length i hlt
          have x2 := (HB.out.cell (p := ⟨g, o + i * 3 + 2, none⟩) hg).trans (hc 2 _ rfl)
          have hltI : (i : Int) < (n : Int) := by omega
          have HX : Hid (∀ t : Int, t = roomI r ((HL.el zs i).da.size : Int) → -1 ≤ t ∧ t ≤ 6000 ∧ (0 ≤ t → ∀ k, k < i + 1 → (HL.el zs k).da.size ≤ 6000)) := Lib.hid (fun t ht => by
            unfold roomI at ht
            by_cases hc9 : r < 0 ∨ r < ((HL.el zs i).da.size : Int)
            · rw [if_pos hc9] at ht
              exact ⟨by omega, by omega, fun h9 => by omega⟩
            · rw [if_neg hc9] at ht
              refine ⟨by omega, by omega, fun _ k hk => ?_⟩
              by_cases e : k = i
              · subst e; omega
              · exact HS.out hr k (by omega))
          clear hc
          generalize HL.el zs i = x at *
          obtain ⟨xf, xt, xd⟩ := x
          simp only at x2 HX
          have HRM : Hid (∀ W b, W.cell? ⟨b, 0, none⟩ = some (.int .i64 (xd.size : Int)) → Calls Try.prog 37 #[.int .i64 r, .slice (some ⟨b, 0, none⟩) 1 1] W fun e w' => e = .returned (.int .i64 (roomI r (xd.size : Int))) ∧ w' = W) := Lib.hid (fun W b hcell => bk_room1 r xd.size b W hcell (by omega) (by omega))
          go_wp2_with fail
          refine (HRM.out _ _ (by go_simp)).mono ?_
          rintro e w4 ⟨rfl, rfl⟩
          obtain ⟨t, ht⟩ : ∃ t, roomI r (xd.size : Int) = t := ⟨_, rfl⟩
          obtain ⟨ht1, ht2, ht3⟩ := HX.out t ht.symm
          have HT := Lib.hid ht3
          rw [ht]
          clear HX ht3 ht HRM
          go_wp2
          go_roundw
          case rel => exact ⟨i + 1, t, by omega, by omega, by go_num, rfl, ht1, ht2, HT, Lib.hid (HB.out.alloc hsz _)⟩
          case measure => simp [intOf]; omega
        · have d2 : decide (0 ≤ r) = false := decide_eq_false hr
          clear HS
          by_cases h60 : (n : Int) ≤ 60
          · have d3 : decide ((n : Int) ≤ 60) = true := decide_eq_true h60
            go_wp2
            go_ret
            exact ⟨_, rfl, ⟨false, rfl, fun h => (by cases h)⟩, HB.out⟩
          · have d3 : decide ((n : Int) ≤ 60) = false := decide_eq_false h60
            go_wp2
            go_ret
            exact ⟨_, rfl, ⟨false, rfl, fun h => (by cases h)⟩, HB.out⟩
      · have d1 : decide ((i : Int) < 200) = false := decide_eq_false (by omega)
        have d3 : decide ((n : Int) ≤ 60) = false := decide_eq_false (by omega)
        clear HS
        go_wp2
        go_ret
        exact ⟨_, rfl, ⟨false, rfl, fun h => (by cases h)⟩, HB.out⟩
    · obtain rfl : i = n := by omega
      have d0 : decide ((i : Int) < (i : Int)) = false := decide_eq_false (by omega)
      by_cases h60 : (i : Int) ≤ 60
      · have d3 : decide ((i : Int) ≤ 60) = true := decide_eq_true h60
        by_cases hr : 0 ≤ r
        · have d2 : decide (0 ≤ r) = true := decide_eq_true hr
          have HS2 := Lib.hid (HS.out hr)
          clear HS
          go_wp2
          go_ret
          exact ⟨_, rfl, ⟨true, rfl, fun _ => ⟨by omega, HS2.out⟩⟩, HB.out⟩
        · have d2 : decide (0 ≤ r) = false := decide_eq_false hr
          clear HS
          go_wp2
          go_ret
          exact ⟨_, rfl, ⟨false, rfl, fun h => (by cases h)⟩, HB.out⟩
      · have d3 : decide ((i : Int) ≤ 60) = false := decide_eq_false h60
        clear HS
        go_wp2
        go_ret
        exact ⟨_, rfl, ⟨false, rfl, fun h => (by cases h)⟩, HB.out⟩
end Go.Proofs.Ythdpajgnigilhaa

/- NetPlays: plain; lists of packets with room behind them. -/
namespace Go.Proofs.Ythdpajgnigilhaa
open Go.RowKit

/-- The worlds in which only blocks of S, and new ones, have changed. -/
def KeptN (S : Nat → Prop) (w : World) : Type := {W : World // Fr S w W}
instance (S : Nat → Prop) (w : World) : Inhabited (KeptN S w) := ⟨⟨w, Fr.refl _ _⟩⟩

set_option maxHeartbeats 2000000 in
set_option maxRecDepth 100000 in
theorem law_plain {p : Option Addr} {n c : Nat} {zs : List Pk} {w : World} (h : RdG pcells w w.heap.size p n zs) (hn : n ≤ 1000) :
    Calls Try.prog 21 #[.slice p n c] w fun e w' => ∃ q d, e = .returned (.slice q n d) ∧ w'.ownsRow w.heap.size 60 3 (.slice q n d) n (rowOf pcells zs) ∧ Below w.heap.size w w' := by
  have H := Lib.hid h
  have hz := h.1
  clear h
  go_enter Try.func21, Try.ntmps21
  go_wp2
  go_loopw [3, 4] (fun ov iv wr => ∃ i : Nat, i ≤ n ∧ iv = .int .i64 i ∧ Hid (wr.ownsRow w.heap.size 60 3 ov i (rowOf pcells (zs.take i))) ∧ Hid (Below w.heap.size w wr)) (fun _ iv _ => n - (intOf iv).toNat)
  case atStart => exact ⟨0, Nat.zero_le _, rfl, Lib.hid (by simpa [rowOf] using World.ownsRow_nil _ _ _ _), Lib.hid (Below.refl _ _)⟩
  case round =>
    obtain ⟨i, hi', rfl, HO, HB⟩ := hrel
    have hsz := HB.out.size
    obtain ⟨op, oc, hov⟩ := owns_slice HO.out
    subst hov
    by_cases hlt : i < n
    · have hltI : (i : Int) < (n : Int) := by omega
      obtain ⟨g, o, rfl, hg, hc⟩ := H.out.el pcells_length i hlt
      have hgo : ¬ (Value.slice op i oc).ownBlock = some g := fun e => by have := (HO.out.lt g e).1; omega
      have HF : Hid (zs.take (i + 1) = zs.take i ++ [HL.el zs i]) := Lib.hid (take_snoc (by omega))
      generalize HL.el zs i = x at *
      obtain ⟨xf, xt, xd⟩ := x
      have q0 : ∀ q : KeptN (fun k => (Value.slice op i oc).ownBlock = some k) wr, q.1.cell? ⟨g, o + i * 3, none⟩ = some (.int .i64 xf) := fun q => (q.2.cell (p := ⟨g, o + i * 3, none⟩) (by show g < _; omega) hgo).trans ((HB.out.cell (p := ⟨g, o + i * 3, none⟩) hg).trans (hc 0 _ rfl))
      have q1 : ∀ q : KeptN (fun k => (Value.slice op i oc).ownBlock = some k) wr, q.1.cell? ⟨g, o + i * 3 + 1, none⟩ = some (.int .i64 xt) := fun q => (q.2.cell (p := ⟨g, o + i * 3 + 1, none⟩) (by show g < _; omega) hgo).trans ((HB.out.cell (p := ⟨g, o + i * 3 + 1, none⟩) hg).trans (hc 1 _ rfl))
      have q2 : ∀ q : KeptN (fun k => (Value.slice op i oc).ownBlock = some k) wr, q.1.cell? ⟨g, o + i * 3 + 2, none⟩ = some (.string xd) := fun q => (q.2.cell (p := ⟨g, o + i * 3 + 2, none⟩) (by show g < _; omega) hgo).trans ((HB.out.cell (p := ⟨g, o + i * 3 + 2, none⟩) hg).trans (hc 2 _ rfl))
      have HBd : Hid (Below wr.heap.size wr wr.drew) := Lib.hid ((Below.refl _ wr).drew)
      have HFIN : Hid (∀ v4 w4, w4.ownsRow w.heap.size 60 3 v4 (i + 1) (rowOf pcells (zs.take i) ++ rowOf pcells [⟨xf, xt, xd⟩]) → (wr.drew.alloc (.cells #[.int .i64 xf, .int .i64 xt, .string xd] 60)).grownBy w4 (Value.slice op i oc).ownBlock → w4.ownsRow w.heap.size 60 3 v4 (i + 1) (rowOf pcells (zs.take (i + 1))) ∧ Below w.heap.size w w4) := Lib.hid (fun v4 w4 h1 h2 => by
        rw [HF.out, rowOf_append]
        exact ⟨h1, ((HB.out.drew).alloc hsz _).grown h2 (by simp; exact Nat.le_succ_of_le hsz) (fun j hj => (HO.out.lt j hj).1)⟩)
      have HFd : Hid (Fr (fun k => (Value.slice op i oc).ownBlock = some k) wr wr.drew) := Lib.hid ((Fr.refl _ wr).drew)
      clear hc
      go_wp2_with fail
      refine Mix.region_mix (n := 19) (m := 3) (fun V => ∃ q : KeptN (fun k => (Value.slice op i oc).ownBlock = some k) wr, V = q.1) [0, 1, 2, 3, 4, 5, 6, 7, 8, 9, 10, 11, 12, 13, 14, 15, 16] (by kernel_rfl) rfl rfl (by kernel_rfl) (by kernel_rfl) ⟨⟨wr.drew, HFd.out⟩, rfl⟩ ?_
      repeat (refine Mix.picks_step rfl ?_; go_big_quiet_step (fail))
      refine Mix.picks_nil ?_
      intro inv
      refine sink_one (i := 17) (by kernel_rfl) rfl (by omega) inv (fun K hK => ?_)
      have HKK := Lib.hid hK
      clear hK
      go_simp
      have HFa : Hid (∀ x, Fr (fun k => (Value.slice op i oc).ownBlock = some k) wr (wr.drew.alloc x)) := Lib.hid (fun x => HFd.out.alloc x)
      refine HKK.out _ _ ⟨⟨_, HFa.out _⟩, rfl⟩ ?_
      clear HKK inv
      intro hS inv
      (try simp only [Act.put]); (try simp only [List.setIfInBounds_toArray]); (try simp only [List.set_cons_succ]); (try simp only [List.set_cons_zero])
      refine sink_one (i := 18) (by kernel_rfl) rfl (by omega) inv (fun K hK => ?_)
      have HKK := Lib.hid hK
      clear hK
      refine RowT.step rpk_T rfl _ _ rfl w.heap.size (.slice op i oc) i (rowOf pcells (zs.take i)) rfl ((Fr.of_all (S := fun _ => False) HBd.out).owns HO.out (fun _ _ h => h) |>.alloc _) (m := 1) (zs := [⟨xf, xt, xd⟩]) rfl (rd_newP wr.drew ⟨xf, xt, xd⟩ _) (fun h => by cases h) (by omega) (by simp; exact Nat.le_succ_of_le hsz) ?_
      intro v4 w4 hown4 hgr4 _
      have H4 := Lib.hid (HFIN.out v4 w4 hown4 hgr4)
      have HF4 : Hid (Fr (fun k => (Value.slice op i oc).ownBlock = some k) wr w4) := Lib.hid (Fr.trans (HFa.out _) (Fr.of_grown hgr4 (S := fun k => (Value.slice op i oc).ownBlock = some k) (fun _ _ h => h)) (fun i hi _ => hi))
      clear hown4 hgr4
      refine HKK.out _ _ ⟨⟨_, HF4.out⟩, rfl⟩ ?_
      clear HKK inv
      intro hS inv
      (try simp only [Act.put]); (try simp only [List.setIfInBounds_toArray]); (try simp only [List.set_cons_succ]); (try simp only [List.set_cons_zero])
      refine sink_last (by kernel_rfl) rfl (by kernel_rfl) (fun K hK => ?_)
      have HKK := Lib.hid hK
      clear hK
      go_simp
      refine HKK.out _ _ ⟨rfl, ?_⟩
      clear HKK inv hS q0 q1 q2
      go_wp2
      go_roundw
      case rel => exact ⟨i + 1, by omega, by go_num, Lib.hid H4.out.1, Lib.hid H4.out.2⟩
      case measure => simp [intOf]; omega
    · obtain rfl : i = n := by omega
      have HE : Hid (zs.take i = zs) := Lib.hid (List.take_of_length_le (by omega))
      rw [HE.out] at HO
      go_wp2
      go_ret
      exact ⟨_, _, rfl, HO.out, HB.out⟩
/-- A list with room behind it, in which a mark stands. -/
def LentP (w : World) (base : Nat) (v : Value) (zs : List Pk) : Prop := ∃ g cap, v = .slice (some ⟨g, 0, none⟩) zs.length cap ∧ w.ownsRow base 34 3 (.slice (some ⟨g, 0, none⟩) (zs.length + 1) cap) (zs.length + 1) (rowOf pcells (zs ++ [⟨-77, 0, ByteArray.empty⟩]))
theorem LentP.rd {w : World} {base : Nat} {p : Option Addr} {n c : Nat} {zs : List Pk} (h : LentP w base (.slice p n c) zs) : RdG pcells w w.heap.size p n zs := by
  obtain ⟨g, cap, e, ho⟩ := h
  injection e with e1 e2 e3
  subst e1 e2 e3
  have hr := RdG.of_own (f := pcells) ho (by simp)
  have e := hr.takes pcells_length (k := zs.length) (by omega)
  rwa [List.take_left' rfl] at e
theorem LentP.keep {w w' : World} {base : Nat} {v : Value} {zs : List Pk} {S : Nat → Prop} (h : LentP w base v zs) (hF : Fr S w w') (hS : ∀ g, v.ownBlock = some g → ¬ S g) : LentP w' base v zs := by
  obtain ⟨g, cap, rfl, ho⟩ := h
  exact ⟨g, cap, rfl, hF.owns ho (fun g' hg => hS g' hg)⟩

set_option maxHeartbeats 2000000 in
set_option maxRecDepth 100000 in
theorem lent_pk (p : Option Addr) (n c : Nat) (zs : List Pk) (w : World) (h : RdG pcells w w.heap.size p n zs) (hp0 : p = none → c = 0) (hn : n ≤ 1000) :
    Calls Try.prog 19 #[.slice p n c] w fun e w' => ∃ g d, e = .returned (.slice (some ⟨g, 0, none⟩) n d) ∧ w.heap.size ≤ g ∧ LentP w' w.heap.size (.slice (some ⟨g, 0, none⟩) n d) zs ∧ Below w.heap.size w w' := by
  have H := Lib.hid h
  have HP := Lib.hid hp0
  clear h hp0
  go_enter Try.func19, Try.ntmps19
  go_wp2_with (first
    | (at_builtin; refine RowT.app pk_T rfl _ _ rfl w.heap.size (.slice none 0 0) 0 [] rfl (World.ownsRow_nil _ _ _ _) (m := n) (zs := zs) rfl H.out HP.out (by omega) (Nat.le_refl _) ?_; intro v3 w3 hown3 hgr3 _
       rw [Nat.zero_add, List.nil_append] at hown3
       obtain ⟨p3, c3, hv3⟩ := owns_slice hown3
       subst hv3
       have HO := Lib.hid hown3
       have HB := Lib.hid ((Below.refl w.heap.size w).grown hgr3 (Nat.le_refl _) (fun j hj => by cases hj))
       have hbs := HB.out.size
       clear hown3 hgr3)
    | (at_builtin; refine RowT.app pk_T rfl _ _ rfl w.heap.size (.slice p3 n c3) n (rowOf pcells zs) rfl (HO.out.alloc _) (m := 1) (zs := [⟨-77, 0, ByteArray.empty⟩]) rfl (rd_newP w3 ⟨-77, 0, ByteArray.empty⟩ _) (fun h => by cases h) (by omega) (by simp; omega) ?_; intro v4 w4 hown4 hgr4 _
       obtain ⟨g4, c4, hv4, _, _, _⟩ := owns_len hown4 (by omega)
       subst hv4
       rw [← rowOf_append] at hown4
       have hz := H.out.1
       have HL4 : Hid (LentP w4 w.heap.size (.slice (some ⟨g4, 0, none⟩) n c4) zs) := Lib.hid ⟨g4, c4, by rw [hz], by rw [hz]; exact hown4⟩
       have HB4 := Lib.hid ((HB.out.alloc hbs (.cells #[.int .i64 (-77), .int .i64 0, .string ByteArray.empty] 34)).grown hgr4 (by simp; omega) (fun j hj => (HO.out.lt j hj).1))
       obtain ⟨hcap, hc4⟩ := owns_caps hown4
       have hgl := (hown4.lt g4 rfl).1
       clear hown4 hgr4 hz))
  go_wp2
  go_ret
  exact ⟨_, _, rfl, hgl, HL4.out, HB4.out⟩

set_option maxHeartbeats 2000000 in
set_option maxRecDepth 100000 in
theorem stays_pk (base g : Nat) (q : Option Addr) (n c d : Nat) (zs : List Pk) (w : World) (h : LentP w base (.slice (some ⟨g, 0, none⟩) n c) zs) (h2 : RdG pcells w w.heap.size q n zs) (hn : n ≤ 1000) :
    Calls Try.prog 22 #[.slice (some ⟨g, 0, none⟩) n c, .slice q n d] w fun e w' => e = .returned (.bool true) ∧ Below w.heap.size w w' := by
  have hrd := h.rd
  have hzn := hrd.1
  have HS := Lib.hid (bk_same (c := c) (d := d) hrd h2 hn)
  obtain ⟨g', cap, e, ho⟩ := h
  injection e with e1 e2 e3
  injection e1 with e1
  injection e1 with e1 _ _
  subst e1 e3
  rw [← e2] at ho
  have hcell : w.cell? ⟨g, n * 3, none⟩ = some (.int .i64 (-77)) := by
    have hr := RdG.of_own (f := pcells) ho (by rw [List.length_append, hzn]; rfl)
    obtain ⟨b, o, e, hb, hc⟩ := hr.el pcells_length n (by omega)
    injection e with e
    injection e with e1 e2 _
    subst e1 e2
    have h3 : HL.el (zs ++ [(⟨-77, 0, ByteArray.empty⟩ : Pk)]) n = ⟨-77, 0, ByteArray.empty⟩ := by
      unfold HL.el
      rw [List.getD_eq_getElem?_getD, List.getElem?_append_right (by omega), hzn, Nat.sub_self]
      rfl
    have h1 := hc 0 (.int .i64 (-77)) (by rw [h3]; rfl)
    rw [Nat.zero_add, Nat.add_zero] at h1
    exact h1
  obtain ⟨hcap, hc4⟩ := owns_caps ho
  have hgl := (ho.lt g rfl).2
  clear ho h2 hrd hzn e2
  go_enter Try.func22, Try.ntmps22
  go_wp2_with fail
  refine HS.out.mono ?_
  rintro e w2 ⟨rfl, hb⟩
  have hcell2 := (hb.cell (p := ⟨g, n * 3, none⟩) hgl).trans hcell
  have HB := Lib.hid hb
  clear hb HS
  go_wp2
  go_ret
  exact ⟨rfl, HB.out⟩
end Go.Proofs.Ythdpajgnigilhaa

/- NetPlays: both nets beside each other; what each call leaves of them. -/
namespace Go.Proofs.Ythdpajgnigilhaa
open Go.RowKit

theorem acc_at {cut : Int → Int → Bool} {at' : Int} {n0 : Nat} {c : Int} {ps : List Pk} : ∀ k : Nat, k ≤ ps.length → ∀ y ∈ accept cut at' n0 c (ps.take k), y.at' = at'
  | 0, _, y, hy => by simp [accept] at hy
  | k + 1, hk, y, hy => by
    rw [take_snoc (by omega), accept_snoc] at hy
    split at hy
    · exact acc_at k (by omega) y hy
    · rcases List.mem_append.1 hy with h | h
      · exact acc_at k (by omega) y h
      · obtain rfl : y = _ := by simpa using h
        rfl
/-- What a send leaves, sorted. -/
theorem send_all {cut : Int → Int → Bool} {at' : Int} {S : List Nd} {seq : Int} (h : NS S seq) (hl : S.length ≤ 600) (ps : List Pk) :
    ∃ S', (S ++ accept cut at' S.length seq ps).Perm S' ∧ NS S' (seq + (accept cut at' S.length seq ps).length) ∧ S'.map stOf = (sendR cut at' (S.map stOf) ps).1 ∧ (accept cut at' S.length seq ps).length = (sendR cut at' (S.map stOf) ps).2 ∧ S'.length ≤ 600 ∧ (∀ y ∈ S', y ∈ S ∨ y.at' = at') ∧ (accept cut at' S.length seq ps).length ≤ ps.length := by
  have e : ps.take ps.length = ps := List.take_length
  have h1 := sendN_acc (cut := cut) (at' := at') (S := S) (c := seq) (ps := ps) ps.length (Nat.le_refl _)
  have h2 := sendN_ns (cut := cut) (at' := at') h (ps := ps) ps.length (Nat.le_refl _)
  have h3 := send_same (cut := cut) (at' := at') (S := S) (c := seq) (ps := ps) ps.length (Nat.le_refl _)
  have h4 := sendN_le (cut := cut) (at' := at') (S := S) (c := seq) (ps := ps) ps.length (Nat.le_refl _) hl
  have h5 := acc_at (cut := cut) (at' := at') (n0 := S.length) (c := seq) (ps := ps) ps.length (Nat.le_refl _)
  have h6 := acc_le (cut := cut) (at' := at') (n0 := S.length) (c := seq) (ps := ps) ps.length (Nat.le_refl _)
  rw [e] at h1 h2 h3 h4 h5 h6
  refine ⟨_, h1.1.symm, by rw [← h1.2]; exact h2, h3.1, by have := h1.2; have := h3.2; omega, h4, fun y hy => ?_, h6⟩
  rcases List.mem_append.1 (h1.1.subset hy) with h | h
  · exact .inl h
  · exact .inr (h5 y h)

theorem Nt.mlt {base nb : Nat} {S : List Nd} {seq : Int} {cu : Value} {m : Option Nat} {ob : Obj} {F : Nat → Prop} {w : World} (h : Nt base nb S seq cu m ob F w) : ∀ k, m = some k → k < w.heap.size ∧ ¬ F k := by
  obtain ⟨v, ch, l, hI, hp, hch, hcw, hmF, hge, hb, rfl⟩ := h
  exact fun k hk => ⟨(Array.getElem?_eq_some_iff.1 (hcw k hk)).1, hmF k hk⟩

/-- The program's net (S) and the reference's (L), what is cut (C, C2), beside blocks O of the step's own. -/
structure NPQ (w w0 : World) (nb rb : Nat) (O : Nat → Prop) (c d : Nat) (S : List Nd) (L : List St) (C C2 : List (Int × Int)) (seq : Int) (cu : Value) (m : Option Nat) (ob : Obj) (F : Nat → Prop) (v1 v2 : Value) (W : World) : Prop where
  n : Nt w.heap.size nb S seq cu m ob F W
  ns : NS S seq
  ats : ∀ y ∈ S, -9223372036854775808 ≤ y.at' ∧ y.at' ≤ 9223372036854775807
  ls : S.length ≤ 600
  ll : L.length ≤ 600
  s0 : 0 ≤ seq
  s1 : seq ≤ (c : Int)
  cut : CutOk cu m ob d C
  cl : C2.length ≤ d
  r : RNI rb w.heap.size v1 v2 L C2 W
  rf : ∀ k, rnF rb v1 v2 k → ¬ F k ∧ m ≠ some k
  mge : ∀ k, m = some k → w.heap.size ≤ k
  bq : w.heap.size ≤ rb
  bel : Below w.heap.size w W
  fr : Fr (fun j => ¬ O j) w0 W
  lt : ∀ j, O j → j < w0.heap.size
  of : ∀ j, O j → ¬ F j ∧ m ≠ some j ∧ ¬ rnF rb v1 v2 j

section
variable {w w0 : World} {nb rb : Nat} {O O' : Nat → Prop} {c d c' d' : Nat} {S S' : List Nd} {L L' : List St} {C C2 C' : List (Int × Int)} {seq seq' : Int} {cu cu' : Value} {m m' : Option Nat} {ob ob' : Obj} {F F' : Nat → Prop} {v1 v2 v1' v2' : Value} {W W' : World}

theorem NPQ.olt (h : NPQ w w0 nb rb O c d S L C C2 seq cu m ob F v1 v2 W) : ∀ j, O j → j < W.heap.size := fun j hj => Nat.lt_of_lt_of_le (h.lt j hj) h.fr.size

theorem NPQ.below (h : NPQ w w0 nb rb O c d S L C C2 seq cu m ob F v1 v2 W) (hb : Below W.heap.size W W') : NPQ w w0 nb rb O c d S L C C2 seq cu m ob F v1 v2 W' :=
  { h with
    n := h.n.keep (Fr.of_all (S := fun _ => False) hb) (fun _ _ h => h) (fun _ _ h => h)
    r := h.r.below hb
    bel := h.bel.trans (hb.mono h.bel.size)
    fr := Fr.trans h.fr (Fr.of_all (S := fun _ => False) hb) (fun _ h _ => h.elim) }

theorem NPQ.setn (h : NPQ w w0 nb rb O c d S L C C2 seq cu m ob F v1 v2 W) (hn : Nt w.heap.size nb S' seq' cu m ob F' W') (hs : Step F F' W W') (ns : NS S' seq') (hat : ∀ y ∈ S', -9223372036854775808 ≤ y.at' ∧ y.at' ≤ 9223372036854775807) (hl : S'.length ≤ 600) (h0 : 0 ≤ seq') (h1 : seq' ≤ (c' : Int)) :
    NPQ w w0 nb rb O c' d S' L C C2 seq' cu m ob F' v1 v2 W' :=
  { h with
    n := hn, ns := ns, ats := hat, ls := hl, s0 := h0, s1 := h1
    r := h.r.keep hs.1 (fun k hk => (h.rf k hk).1)
    rf := fun k hk => ⟨fun e => by
      rcases hs.2 k e with e | e
      · exact (h.rf k hk).1 e
      · have := h.r.lt k hk; omega, (h.rf k hk).2⟩
    bel := h.n.below (Nat.le_refl _) h.bel hs.1
    fr := Fr.trans h.fr hs.1 (fun i hi _ e => (h.of i e).1 hi)
    of := fun j hj => ⟨fun e => by
      rcases hs.2 j e with e | e
      · exact (h.of j hj).1 e
      · have := h.olt j hj; omega, (h.of j hj).2⟩ }

theorem NPQ.setr (h : NPQ w w0 nb rb O c d S L C C2 seq cu m ob F v1 v2 W) (hr : RNI rb w.heap.size v1' v2' L' C' W') (hF : Fr (fun k => k = rb) W W') (hl : ∀ k, rnF rb v1' v2' k → rnF rb v1 v2 k ∨ W.heap.size ≤ k) (hll : L'.length ≤ 600) (hc : C'.length ≤ d) :
    NPQ w w0 nb rb O c d S L' C C' seq cu m ob F v1' v2' W' :=
  { h with
    n := h.n.keep hF (fun k hk e => (h.rf rb (.inl rfl)).1 (e ▸ hk)) (fun k hk e => (h.rf rb (.inl rfl)).2 (by rw [hk, e]))
    r := hr, ll := hll, cl := hc
    rf := fun k hk => by
      rcases hl k hk with e | e
      · exact h.rf k e
      · exact ⟨fun e2 => by have := h.n.lt k e2; omega, fun e2 => by have := (h.n.mlt k e2).1; omega⟩
    bel := h.bel.trans (hF.below h.bel.size (fun i hi => by have : i = rb := hi; rw [this]; exact h.bq))
    fr := Fr.trans h.fr hF (fun i hi _ e => (h.of i e).2.2 (.inl hi))
    of := fun j hj => ⟨(h.of j hj).1, (h.of j hj).2.1, fun e => by
      rcases hl j e with e | e
      · exact (h.of j hj).2.2 e
      · have := h.olt j hj; omega⟩ }

theorem NPQ.setc (h : NPQ w w0 nb rb O c d S L C C2 seq cu m ob F v1 v2 W) (hn : Nt w.heap.size nb S seq cu' m' ob' F W') (hc : CutOk cu' m' ob' d' C') (hF : Fr (fun k => F k ∨ m = some k) W W') (hm : ∀ k, m' = some k → m = some k ∨ W.heap.size ≤ k) (hd : d ≤ d') :
    NPQ w w0 nb rb O c d' S L C' C2 seq cu' m' ob' F v1 v2 W' :=
  { h with
    n := hn, cut := hc, cl := Nat.le_trans h.cl hd
    r := h.r.keep hF (fun k hk e => e.elim (h.rf k hk).1 (h.rf k hk).2)
    rf := fun k hk => ⟨(h.rf k hk).1, fun e => by
      rcases hm k e with e | e
      · exact (h.rf k hk).2 e
      · have := h.r.lt k hk; omega⟩
    mge := fun k hk => by
      rcases hm k hk with e | e
      · exact h.mge k e
      · have := h.bel.size; omega
    bel := h.bel.trans (hF.below h.bel.size (fun i hi => hi.elim (h.n.ge i) (h.mge i)))
    fr := Fr.trans h.fr hF (fun i hi _ e => hi.elim (h.of i e).1 (h.of i e).2.1)
    of := fun j hj => ⟨(h.of j hj).1, fun e => by
      rcases hm j e with e | e
      · exact (h.of j hj).2.1 e
      · have := h.olt j hj; omega, (h.of j hj).2.2⟩ }

theorem NPQ.again (h : NPQ w w0 nb rb O c d S L C C2 seq cu m ob F v1 v2 W) (hb : Below W.heap.size W W') (hO : ∀ j, O' j → O j ∨ (W.heap.size ≤ j ∧ j < W'.heap.size)) : NPQ w W' nb rb O' c d S L C C2 seq cu m ob F v1 v2 W' :=
  { h.below hb with
    fr := Fr.refl _ _
    lt := fun j hj => by
      rcases hO j hj with e | e
      · exact Nat.lt_of_lt_of_le (h.olt j e) hb.size
      · exact e.2
    of := fun j hj => by
      rcases hO j hj with e | e
      · exact h.of j e
      · exact ⟨fun e2 => by have := h.n.lt j e2; omega, fun e2 => by have := (h.n.mlt j e2).1; omega, fun e2 => by have := h.r.lt j e2; omega⟩ }
theorem NPQ.more (h : NPQ w w0 nb rb O c d S L C C2 seq cu m ob F v1 v2 W) (hc : c ≤ c') (hd : d ≤ d') : NPQ w w0 nb rb O c' d' S L C C2 seq cu m ob F v1 v2 W :=
  { h with
    s1 := by have := h.s1; omega
    cl := Nat.le_trans h.cl hd
    cut := by
      rcases h.cut with e | ⟨mb, D, e1, e2, e3, e4⟩
      · exact .inl e
      · exact .inr ⟨mb, D, e1, e2, fun W hW => by obtain ⟨n, h1, h2⟩ := e3 W hW; exact ⟨n, by omega, h2⟩, e4⟩ }
end

def NPS (w w0 : World) (nb rb : Nat) (O : Nat → Prop) (c d : Nat) (S : List Nd) (L : List St) (C C2 : List (Int × Int)) (W : World) : Prop :=
  ∃ seq cu m ob F v1 v2, NPQ w w0 nb rb O c d S L C C2 seq cu m ob F v1 v2 W
/-- Both hold the same. -/
def NPR (w w0 : World) (nb rb : Nat) (O : Nat → Prop) (i : Nat) (W : World) : Prop := ∃ S C, NPS w w0 nb rb O (700 * i) i S (S.map stOf) C C W

section
variable {w w0 : World} {nb rb : Nat} {O O' : Nat → Prop} {c d c' d' : Nat} {S S' : List Nd} {L L' : List St} {C C2 C' : List (Int × Int)} {W W' : World}
theorem NPS.below (h : NPS w w0 nb rb O c d S L C C2 W) (hb : Below W.heap.size W W') : NPS w w0 nb rb O c d S L C C2 W' := by
  obtain ⟨a, b, e, f, g, i, j, h⟩ := h
  exact ⟨a, b, e, f, g, i, j, h.below hb⟩
theorem NPS.again (h : NPS w w0 nb rb O c d S L C C2 W) (hb : Below W.heap.size W W') (hO : ∀ j, O' j → O j ∨ (W.heap.size ≤ j ∧ j < W'.heap.size)) : NPS w W' nb rb O' c d S L C C2 W' := by
  obtain ⟨a, b, e, f, g, i, j, h⟩ := h
  exact ⟨a, b, e, f, g, i, j, h.again hb hO⟩
theorem NPS.more (h : NPS w w0 nb rb O c d S L C C2 W) (hc : c ≤ c') (hd : d ≤ d') : NPS w w0 nb rb O c' d' S L C C2 W := by
  obtain ⟨a, b, e, f, g, i, j, h⟩ := h
  exact ⟨a, b, e, f, g, i, j, h.more hc hd⟩
theorem NPS.bel (h : NPS w w0 nb rb O c d S L C C2 W) : Below w.heap.size w W := by
  obtain ⟨a, b, e, f, g, i, j, h⟩ := h
  exact h.bel
theorem NPS.fr (h : NPS w w0 nb rb O c d S L C C2 W) : Fr (fun j => ¬ O j) w0 W := by
  obtain ⟨a, b, e, f, g, i, j, h⟩ := h
  exact h.fr
theorem NPS.ls (h : NPS w w0 nb rb O c d S L C C2 W) : S.length ≤ 600 := by
  obtain ⟨a, b, e, f, g, i, j, h⟩ := h
  exact h.ls
theorem NPS.ats (h : NPS w w0 nb rb O c d S L C C2 W) : ∀ y ∈ S, -9223372036854775808 ≤ y.at' ∧ y.at' ≤ 9223372036854775807 := by
  obtain ⟨a, b, e, f, g, i, j, h⟩ := h
  exact h.ats
/-- How the reference's row lies. -/
theorem NPS.row (h : NPS w w0 nb rb O c d S L C C2 W) : ∃ p e, W.cell? ⟨rb, 0, none⟩ = some (.slice p L.length e) ∧ W.frozen? ⟨rb, 0, none⟩ = false ∧ rb < W.heap.size ∧ ∀ k, k < L.length → ∃ g, p = some ⟨g, 0, none⟩ ∧ g < W.heap.size ∧ W.cell? ⟨g, k * 4, none⟩ = some (.int .i64 (HL.el L k).at') ∧ W.cell? ⟨g, k * 4 + 1, none⟩ = some (.int .i64 (HL.el L k).fr) ∧ W.cell? ⟨g, k * 4 + 1 + 1, none⟩ = some (.int .i64 (HL.el L k).to) ∧ W.cell? ⟨g, k * 4 + 1 + 2, none⟩ = some (.string (HL.el L k).da) := by
  obtain ⟨_, _, _, _, _, v1, v2, h⟩ := h
  rcases owns_two h.r.o1 with ⟨e1, e2⟩ | ⟨g, e, e1, hg⟩
  · subst e1
    exact ⟨none, 0, by rw [e2]; exact h.r.c0, h.r.f0, cell_lt h.r.c0, fun k hk => by omega⟩
  · subst e1
    exact ⟨some ⟨g, 0, none⟩, e, h.r.c0, h.r.f0, cell_lt h.r.c0, fun k hk => by
      obtain ⟨h0, h1, h2, h3⟩ := h.r.cells k hk
      exact ⟨g, rfl, hg, h0, h1, h2, h3⟩⟩

theorem el_map (S : List Nd) (k : Nat) (hk : k < S.length) : HL.el (S.map stOf) k = stOf (HL.el S k) := by
  have e1 : HL.el (S.map stOf) k = (S.map stOf)[k]'(by simpa using hk) := by simp [HL.el, List.getD, hk]
  have e2 : HL.el S k = S[k] := by simp [HL.el, List.getD, hk]
  rw [e1, e2, List.getElem_map]
theorem map_cut (S : List Nd) (k : Nat) : (S.take k ++ S.drop (k + 1)).map stOf = (S.map stOf).take k ++ (S.map stOf).drop (k + 1) := by
  rw [List.map_append, List.map_take, List.map_drop]

/-! ### The program's calls -/
theorem np_send (h : NPS w w0 nb rb O c d S L C C2 W) (hc : c ≤ 400000) (at' : Int) (hat : i64ok at') (ps : List Pk) (p : Option Addr) (n e' : Nat) (hR : RdG pcells W W.heap.size p n ps) (hRS : ∀ b o, p = some ⟨b, o, none⟩ → O b) (hda : ∀ k, k < n → (HL.el ps k).da.size ≤ 6000) (hok : ∀ z ∈ ps, pkok z) (hn : n ≤ 1000) :
    Calls Try.prog 10 #[.pointer (some ⟨nb, 0, none⟩), .int .i64 at', .slice p n e'] W fun e w' => e = .returned (.int .i64 ((sendR (isCut C) at' (S.map stOf) ps).2 : Nat)) ∧ ∃ S', S'.map stOf = (sendR (isCut C) at' (S.map stOf) ps).1 ∧ NPS w w0 nb rb O (c + n) d S' L C C2 w' := by
  obtain ⟨seq, cu, m, ob, F, v1, v2, h⟩ := h
  have hpl := hR.1
  obtain ⟨S', h1, h2, h3, h4, h5, h6, h7⟩ := send_all (cut := isCut C) (at' := at') h.ns h.ls ps
  have hs1 := h.s1
  have hs0 := h.s0
  refine (nt_send at' (isCut C) ps p n e' h.n (Lib.hid (fun k hk W hW => ?_)) hR (fun b o e => (h.of b (hRS b o e)).1) (Lib.hid (fun k hk => by have := hda k hk; omega)) (by omega) h.s0 (by omega)).mono ?_
  · have := hok (HL.el ps k) (HL.el_mem ps k (by omega))
    exact h.cut.look this.1 this.2 W hW
  · rintro e w' ⟨rfl, F', hN, hst⟩
    refine ⟨by rw [h4], S', h3, seq + (accept (isCut C) at' S.length seq ps).length, cu, m, ob, F', v1, v2, h.setn (hN.perm h1) hst h2 (fun y hy => ?_) h5 (by omega) (by omega)⟩
    rcases h6 y hy with e | e
    · exact h.ats y e
    · rw [e]; exact rd_le hat

theorem np_len (h : NPS w w0 nb rb O c d S L C C2 W) : Calls Try.prog 11 #[.pointer (some ⟨nb, 0, none⟩)] W fun e w' => e = .returned (.int .i64 S.length) ∧ W = w' := by
  obtain ⟨_, _, _, _, _, _, _, h⟩ := h
  exact nt_len h.n

theorem np_due_none (h : NPS w w0 nb rb O c d [] L C C2 W) (now : Int) :
    Calls Try.prog 15 #[.pointer (some ⟨nb, 0, none⟩), .int .i64 now] W fun e w' => e = .returned (.tuple #[pkv 0 0 ByteArray.empty, .bool false]) ∧ NPS w w0 nb rb O c d [] L C C2 w' := by
  have h0 := h
  obtain ⟨_, _, _, _, _, _, _, h⟩ := h
  refine (nt_due_none now h.n).mono ?_
  rintro e w' ⟨rfl, hb⟩
  exact ⟨rfl, h0.below hb⟩
theorem np_due_early (h : NPS w w0 nb rb O c d S L C C2 W) (hS : 0 < S.length) (now : Int) (hnow : now < (HL.el S 0).at') :
    Calls Try.prog 15 #[.pointer (some ⟨nb, 0, none⟩), .int .i64 now] W fun e w' => e = .returned (.tuple #[pkv 0 0 ByteArray.empty, .bool false]) ∧ NPS w w0 nb rb O c d S L C C2 w' := by
  have h0 := h
  obtain ⟨_, _, _, _, _, _, _, h⟩ := h
  obtain ⟨x, hx, hm, he, -⟩ := nt_due now h.n hS
  have : x = HL.el S 0 := h.ns.first hS hx hm
  subst this
  refine (he hnow).mono ?_
  rintro e w' ⟨rfl, hb⟩
  exact ⟨rfl, h0.below hb⟩
theorem cut_ats {S : List Nd} {k : Nat} {P : Nd → Prop} (h : ∀ y ∈ S, P y) : ∀ y ∈ S.take k ++ S.drop (k + 1), P y := fun y hy => h y ((cut_sub S k).subset hy)
theorem cut_le {S : List Nd} {k : Nat} (h : S.length ≤ 600) : (S.take k ++ S.drop (k + 1)).length ≤ 600 := Nat.le_trans (cut_sub S k).length_le h
theorem np_due (h : NPS w w0 nb rb O c d S L C C2 W) (hS : 0 < S.length) (now : Int) (hnow : (HL.el S 0).at' ≤ now) :
    Calls Try.prog 15 #[.pointer (some ⟨nb, 0, none⟩), .int .i64 now] W fun e w' => e = .returned (.tuple #[pkv (HL.el S 0).fr (HL.el S 0).to (HL.el S 0).da, .bool true]) ∧ NPS w w0 nb rb O c d (S.take 0 ++ S.drop (0 + 1)) L C C2 w' := by
  obtain ⟨seq, cu, m, ob, F, v1, v2, h⟩ := h
  obtain ⟨x, hx, hm, -, ht⟩ := nt_due now h.n hS
  have : x = HL.el S 0 := h.ns.first hS hx hm
  subst this
  refine (ht hnow).mono ?_
  rintro e w' ⟨rfl, S', F', hp, hN, hst⟩
  exact ⟨rfl, seq, cu, m, ob, F', v1, v2, h.setn (hN.perm (h.ns.cut_at hS hp)) hst (h.ns.sub (cut_sub S 0)) (cut_ats h.ats) (cut_le h.ls) h.s0 h.s1⟩
theorem np_pull (h : NPS w w0 nb rb O c d S L C C2 W) (k : Nat) (hk : k < S.length) :
    Calls Try.prog 25 #[.pointer (some ⟨nb, 0, none⟩), .int .i64 k] W fun e w' => e = .returned (.tuple #[pkv (HL.el S k).fr (HL.el S k).to (HL.el S k).da, .bool true]) ∧ NPS w w0 nb rb O c d (S.take k ++ S.drop (k + 1)) L C C2 w' := by
  obtain ⟨seq, cu, m, ob, F, v1, v2, h⟩ := h
  refine (nt_pull k h.n hk).mono ?_
  rintro e w' ⟨x, ts, rfl, hts, hsd, rfl, S', F', hp, hN, hst⟩
  obtain rfl := h.ns.uniq hsd hts
  exact ⟨rfl, seq, cu, m, ob, F', v1, v2, h.setn (hN.perm (h.ns.cut_at hk hp)) hst (h.ns.sub (cut_sub _ k)) (cut_ats h.ats) (cut_le h.ls) h.s0 h.s1⟩
theorem np_pull_i (h : NPS w w0 nb rb O c d S L C C2 W) (k : Int) (hk : k < 0 ∨ (S.length : Int) ≤ k) :
    Calls Try.prog 25 #[.pointer (some ⟨nb, 0, none⟩), .int .i64 k] W fun e w' => e = .returned (.tuple #[pkv 0 0 ByteArray.empty, .bool false]) ∧ NPS w w0 nb rb O c d S L C C2 w' := by
  have h0 := h
  obtain ⟨_, _, _, _, _, _, _, h⟩ := h
  exact (nt_pull_i k h.n hk).mono fun e w' hh => ⟨hh.1, h0.below hh.2⟩
theorem np_drop (h : NPS w w0 nb rb O c d S L C C2 W) (k : Nat) (hk : k < S.length) :
    Calls Try.prog 12 #[.pointer (some ⟨nb, 0, none⟩), .int .i64 k] W fun e w' => e = .returned (.bool true) ∧ NPS w w0 nb rb O c d (S.take k ++ S.drop (k + 1)) L C C2 w' := by
  obtain ⟨seq, cu, m, ob, F, v1, v2, h⟩ := h
  refine (nt_drop k h.n hk).mono ?_
  rintro e w' ⟨rfl, x, ts, hts, hsd, rfl, S', F', hp, hN, hst⟩
  obtain rfl := h.ns.uniq hsd hts
  exact ⟨rfl, seq, cu, m, ob, F', v1, v2, h.setn (hN.perm (h.ns.cut_at hk hp)) hst (h.ns.sub (cut_sub _ k)) (cut_ats h.ats) (cut_le h.ls) h.s0 h.s1⟩
theorem np_drop_i (h : NPS w w0 nb rb O c d S L C C2 W) (k : Int) (hk : k < 0 ∨ (S.length : Int) ≤ k) :
    Calls Try.prog 12 #[.pointer (some ⟨nb, 0, none⟩), .int .i64 k] W fun e w' => e = .returned (.bool false) ∧ NPS w w0 nb rb O c d S L C C2 w' := by
  have h0 := h
  obtain ⟨_, _, _, _, _, _, _, h⟩ := h
  exact (nt_drop_i k h.n hk).mono fun e w' hh => ⟨hh.1, h0.below hh.2⟩
theorem np_double_i (h : NPS w w0 nb rb O c d S L C C2 W) (k : Int) (hk : k < 0 ∨ (S.length : Int) ≤ k ∨ 600 ≤ S.length) :
    Calls Try.prog 16 #[.pointer (some ⟨nb, 0, none⟩), .int .i64 k] W fun e w' => e = .returned (.bool false) ∧ NPS w w0 nb rb O c d S L C C2 w' := by
  have h0 := h
  obtain ⟨_, _, _, _, _, _, _, h⟩ := h
  by_cases h1 : k < 0 ∨ (S.length : Int) ≤ k
  · exact (nt_double_i k h.n h1).mono fun e w' hh => ⟨hh.1, h0.below hh.2⟩
  · obtain ⟨k', rfl⟩ := Int.eq_ofNat_of_zero_le (show 0 ≤ k by omega)
    exact (nt_double_full k' h.n (by omega) (by omega)).mono fun e w' hh => ⟨hh.1, h0.below hh.2⟩
theorem np_double (h : NPS w w0 nb rb O c d S L C C2 W) (hc : c ≤ 400000) (k : Nat) (hk : k < S.length) (hroom : S.length < 600) :
    Calls Try.prog 16 #[.pointer (some ⟨nb, 0, none⟩), .int .i64 k] W fun e w' => e = .returned (.bool true) ∧ ∃ S', S'.map stOf = insS (S.map stOf) (HL.el (S.map stOf) k) ∧ NPS w w0 nb rb O (c + 1) d S' L C C2 w' := by
  obtain ⟨seq, cu, m, ob, F, v1, v2, h⟩ := h
  have hs1 := h.s1
  have hs0 := h.s0
  refine (nt_double k h.n hk hroom h.s0 (by omega)).mono ?_
  rintro e w' ⟨rfl, x, ts, hts, hsd, rfl, F', hN, hst⟩
  obtain rfl := h.ns.uniq hsd hts
  refine ⟨rfl, insN ts ⟨(HL.el ts k).fr, (HL.el ts k).to, (HL.el ts k).da, (HL.el ts k).at', seq + 1⟩, ?_, seq + 1, cu, m, ob, F', v1, v2, h.setn (hN.perm (insN_perm _ _).symm) hst (h.ns.ins rfl) (fun y hy => ?_) (by rw [insN_length]; omega) (by omega) (by omega)⟩
  · rw [map_insN, el_map _ _ hk]; rfl
  · rcases List.mem_append.1 ((insN_perm _ _).subset hy) with e | e
    · exact h.ats y e
    · obtain rfl : y = _ := by simpa using e
      exact h.ats (HL.el ts k) (HL.el_mem ts k hk)
theorem later_ok {a b : Int} (ha : -9223372036854775808 ≤ a ∧ a ≤ 9223372036854775807) (hb : 0 ≤ b) : -9223372036854775808 ≤ later a b ∧ later a b ≤ 9223372036854775807 := by
  unfold later
  split <;> omega
theorem np_delay_i (h : NPS w w0 nb rb O c d S L C C2 W) (k b : Int) (hk : k < 0 ∨ (S.length : Int) ≤ k ∨ b < 0) :
    Calls Try.prog 17 #[.pointer (some ⟨nb, 0, none⟩), .int .i64 k, .int .i64 b] W fun e w' => e = .returned (.bool false) ∧ NPS w w0 nb rb O c d S L C C2 w' := by
  have h0 := h
  obtain ⟨_, _, _, _, _, _, _, h⟩ := h
  by_cases h1 : k < 0 ∨ (S.length : Int) ≤ k
  · exact (nt_delay_i k b h.n h1).mono fun e w' hh => ⟨hh.1, h0.below hh.2⟩
  · obtain ⟨k', rfl⟩ := Int.eq_ofNat_of_zero_le (show 0 ≤ k by omega)
    exact (nt_delay_neg k' b h.n (by omega) (by omega)).mono fun e w' hh => ⟨hh.1, h0.below hh.2⟩
theorem np_delay (h : NPS w w0 nb rb O c d S L C C2 W) (hc : c ≤ 400000) (k : Nat) (hk : k < S.length) (b : Int) (hb0 : 0 ≤ b) (hb1 : b ≤ 9223372036854775807) :
    Calls Try.prog 17 #[.pointer (some ⟨nb, 0, none⟩), .int .i64 k, .int .i64 b] W fun e w' => e = .returned (.bool true) ∧ ∃ S', S'.map stOf = insS ((S.map stOf).take k ++ (S.map stOf).drop (k + 1)) ⟨later (HL.el (S.map stOf) k).at' b, (HL.el (S.map stOf) k).fr, (HL.el (S.map stOf) k).to, (HL.el (S.map stOf) k).da⟩ ∧ NPS w w0 nb rb O (c + 1) d S' L C C2 w' := by
  obtain ⟨seq, cu, m, ob, F, v1, v2, h⟩ := h
  have hs1 := h.s1
  have hs0 := h.s0
  have hls := h.ls
  refine (nt_delay_g k b h.n hk h.ats hb0 hb1 (by omega) h.s0 (by omega)).mono ?_
  rintro e w' ⟨rfl, x, ts, hts, hsd, rfl, S1, F', hp, hN, hst⟩
  obtain rfl := h.ns.uniq hsd hts
  have hcp := h.ns.cut_at hk hp
  have hlen := cut_length ts k hk
  refine ⟨rfl, insN (ts.take k ++ ts.drop (k + 1)) ⟨(HL.el ts k).fr, (HL.el ts k).to, (HL.el ts k).da, later (HL.el ts k).at' b, seq + 1⟩, ?_, seq + 1, cu, m, ob, F', v1, v2, h.setn (hN.perm ((hcp.append_right _).trans (insN_perm _ _).symm)) hst ((h.ns.sub (cut_sub _ k)).ins rfl) (fun y hy => ?_) (by rw [insN_length]; omega) (by omega) (by omega)⟩
  · rw [map_insN, map_cut, el_map _ _ hk]; rfl
  · rcases List.mem_append.1 ((insN_perm _ _).subset hy) with e | e
    · exact cut_ats h.ats y e
    · obtain rfl : y = _ := by simpa using e
      exact later_ok (h.ats _ (HL.el_mem ts k hk)) hb0
theorem np_cut (h : NPS w w0 nb rb O c d S L C C2 W) (hd : d < 10000) (a b : Int) (on : Bool) (ha : i64ok a) (hb : i64ok b) :
    Calls Try.prog 14 #[.pointer (some ⟨nb, 0, none⟩), .int .i64 a, .int .i64 b, .bool on] W fun e w' => e = .returned (.tuple #[]) ∧ NPS w w0 nb rb O c (d + 1) S L (cutC C a b on) C2 w' := by
  obtain ⟨seq, cu, m, ob, F, v1, v2, h⟩ := h
  refine (nt_cut h.n h.cut (by omega) a b on ha hb).mono ?_
  rintro e w' ⟨rfl, cu', m', ob', hN, hC, hF, hm⟩
  exact ⟨rfl, seq, cu', m', ob', F, v1, v2, h.setc hN hC hF hm (by omega)⟩
set_option maxRecDepth 100000 in
theorem nt_clear0 {base : Nat} {seq : Int} {cu : Value} {m : Option Nat} {ob : Obj} {F : Nat → Prop} (h : Nt base nb [] seq cu m ob F w) : Calls Try.prog 13 #[.pointer (some ⟨nb, 0, none⟩)] w fun e w' => e = .returned (.int .i64 0) ∧ w' = w := by
  have HL1 := Lib.hid (nt_len h)
  clear h
  go_enter Try.func13, Try.ntmps13
  go_wp2_with fail
  refine HL1.out.mono ?_
  rintro e w1 ⟨rfl, rfl⟩
  go_wp2
  go_ret
  exact ⟨rfl, rfl⟩
theorem np_clear (h : NPS w w0 nb rb O c d S L C C2 W) :
    Calls Try.prog 13 #[.pointer (some ⟨nb, 0, none⟩)] W fun e w' => e = .returned (.int .i64 S.length) ∧ NPS w w0 nb rb O c d [] L C C2 w' := by
  obtain ⟨seq, cu, m, ob, F, v1, v2, h⟩ := h
  by_cases hS : 0 < S.length
  · refine (nt_clear h.n hS).mono ?_
    rintro e w' ⟨rfl, F', hN, hst⟩
    exact ⟨rfl, seq, cu, m, ob, F', v1, v2, h.setn hN hst (NS.nil _) (fun y hy => (by cases hy)) (by simp) h.s0 h.s1⟩
  · obtain rfl : S = [] := List.eq_nil_of_length_eq_zero (by omega)
    refine (nt_clear0 h.n).mono ?_
    rintro e w' ⟨rfl, rfl⟩
    exact ⟨rfl, seq, cu, m, ob, F, v1, v2, h⟩
theorem np_peek (h : NPS w w0 nb rb O c d S L C C2 W) (k : Nat) (hk : k < S.length) :
    Calls Try.prog 30 #[.pointer (some ⟨nb, 0, none⟩), .int .i64 k] W fun e w' => e = .returned (.tuple #[pkv (HL.el S k).fr (HL.el S k).to (HL.el S k).da, .bool true]) ∧ Below W.heap.size W w' := by
  obtain ⟨seq, cu, m, ob, F, v1, v2, h⟩ := h
  refine (nt_peek k h.n hk).mono ?_
  rintro e w' ⟨ts, rfl, hts, hsd, hb⟩
  obtain rfl := h.ns.uniq hsd hts
  exact ⟨rfl, hb⟩
theorem np_peek_i (h : NPS w w0 nb rb O c d S L C C2 W) (k : Int) (hk : k < 0 ∨ (S.length : Int) ≤ k) :
    Calls Try.prog 30 #[.pointer (some ⟨nb, 0, none⟩), .int .i64 k] W fun e w' => e = .returned (.tuple #[pkv 0 0 ByteArray.empty, .bool false]) ∧ Below W.heap.size W w' := by
  obtain ⟨seq, cu, m, ob, F, v1, v2, h⟩ := h
  exact nt_peek_i k h.n hk

/-! ### The reference's calls -/
theorem np_rsend (h : NPS w w0 nb rb O c d S L C C2 W) (hd : d ≤ 10000) (at' : Int) (ps : List Pk) (p : Option Addr) (n e' : Nat) (hR : RdG pcells W W.heap.size p n ps) (hRS : ∀ b o, p = some ⟨b, o, none⟩ → O b) (hn : n ≤ 1000) :
    Calls Try.prog 20 #[.pointer (some ⟨rb, 0, none⟩), .int .i64 at', .slice p n e'] W fun e w' => e = .returned (.int .i64 ((sendR (isCut C2) at' L ps).2 : Nat)) ∧ NPS w w0 nb rb O c d S (sendR (isCut C2) at' L ps).1 C C2 w' := by
  obtain ⟨seq, cu, m, ob, F, v1, v2, h⟩ := h
  have hcl := h.cl
  refine (rn_send h.r at' ps p n e' hR (fun b o e e2 => (h.of b (hRS b o e)).2.2 (.inl e2)) h.ll (by omega) hn).mono ?_
  rintro e w' ⟨rfl, v', hS⟩
  have hll := (sendR_len (cut := isCut C2) (at' := at') h.ll (ps := ps) ps.length (Nat.le_refl _)).1
  rw [List.take_length] at hll
  refine ⟨rfl, seq, cu, m, ob, F, v', v2, h.setr hS.net hS.fr (fun k hk => ?_) hll h.cl⟩
  rcases hk with e | e | e
  · exact .inl (.inl e)
  · exact (hS.low k e).imp (fun h => .inr (.inl h)) id
  · exact .inl (.inr (.inr e))
theorem np_low {v' v1 v2 : Value} (hl : ∀ g, v'.ownBlock = some g → W.heap.size ≤ g) : ∀ k, rnF rb v' v2 k → rnF rb v1 v2 k ∨ W.heap.size ≤ k := fun k hk => by
  rcases hk with e | e | e
  · exact .inl (.inl e)
  · exact .inr (hl k e)
  · exact .inl (.inr (.inr e))
theorem np_rdue_none (h : NPS w w0 nb rb O c d S [] C C2 W) (now : Int) :
    Calls Try.prog 23 #[.pointer (some ⟨rb, 0, none⟩), .int .i64 now] W fun e w' => e = .returned (.tuple #[pkv 0 0 ByteArray.empty, .bool false]) ∧ NPS w w0 nb rb O c d S [] C C2 w' := by
  have h0 := h
  obtain ⟨_, _, _, _, _, _, _, h⟩ := h
  exact (rn_due_none h.r now).mono fun e w' hh => ⟨hh.1, h0.below hh.2⟩
theorem np_rdue_early (h : NPS w w0 nb rb O c d S L C C2 W) (hL : 0 < L.length) (now : Int) (hnow : now < (HL.el L 0).at') :
    Calls Try.prog 23 #[.pointer (some ⟨rb, 0, none⟩), .int .i64 now] W fun e w' => e = .returned (.tuple #[pkv 0 0 ByteArray.empty, .bool false]) ∧ NPS w w0 nb rb O c d S L C C2 w' := by
  have h0 := h
  obtain ⟨_, _, _, _, _, _, _, h⟩ := h
  exact (rn_due_early h.r hL now hnow).mono fun e w' hh => ⟨hh.1, h0.below hh.2⟩
theorem cutS_le {L : List St} {k : Nat} (h : L.length ≤ 600) : (L.take k ++ L.drop (k + 1)).length ≤ 600 := Nat.le_trans (cut_sub L k).length_le h
theorem np_rdue (h : NPS w w0 nb rb O c d S L C C2 W) (hL : 0 < L.length) (now : Int) (hnow : (HL.el L 0).at' ≤ now) :
    Calls Try.prog 23 #[.pointer (some ⟨rb, 0, none⟩), .int .i64 now] W fun e w' => e = .returned (.tuple #[pkv (HL.el L 0).fr (HL.el L 0).to (HL.el L 0).da, .bool true]) ∧ NPS w w0 nb rb O c d S (L.take 0 ++ L.drop (0 + 1)) C C2 w' := by
  obtain ⟨seq, cu, m, ob, F, v1, v2, h⟩ := h
  have hll := h.ll
  refine (rn_due h.r hL (by omega) now hnow).mono ?_
  rintro e w' ⟨rfl, v', hI, hF, hl⟩
  exact ⟨rfl, seq, cu, m, ob, F, v', v2, h.setr hI hF (np_low hl) (cutS_le h.ll) h.cl⟩
theorem np_rpull (h : NPS w w0 nb rb O c d S L C C2 W) (k : Nat) (hk : k < L.length) :
    Calls Try.prog 26 #[.pointer (some ⟨rb, 0, none⟩), .int .i64 k] W fun e w' => e = .returned (.tuple #[pkv (HL.el L k).fr (HL.el L k).to (HL.el L k).da, .bool true]) ∧ NPS w w0 nb rb O c d S (L.take k ++ L.drop (k + 1)) C C2 w' := by
  obtain ⟨seq, cu, m, ob, F, v1, v2, h⟩ := h
  have hll := h.ll
  refine (rn_pull h.r k hk (by omega)).mono ?_
  rintro e w' ⟨rfl, v', hI, hF, hl⟩
  exact ⟨rfl, seq, cu, m, ob, F, v', v2, h.setr hI hF (np_low hl) (cutS_le h.ll) h.cl⟩
theorem np_rpull_i (h : NPS w w0 nb rb O c d S L C C2 W) (k : Int) (hk : k < 0 ∨ (L.length : Int) ≤ k) :
    Calls Try.prog 26 #[.pointer (some ⟨rb, 0, none⟩), .int .i64 k] W fun e w' => e = .returned (.tuple #[pkv 0 0 ByteArray.empty, .bool false]) ∧ NPS w w0 nb rb O c d S L C C2 w' := by
  have h0 := h
  obtain ⟨_, _, _, _, _, _, _, h⟩ := h
  exact (rn_pull_no h.r k hk).mono fun e w' hh => ⟨hh.1, h0.below hh.2⟩
theorem np_rdouble_i (h : NPS w w0 nb rb O c d S L C C2 W) (k : Int) (hk : k < 0 ∨ (L.length : Int) ≤ k ∨ 600 ≤ L.length) :
    Calls Try.prog 27 #[.pointer (some ⟨rb, 0, none⟩), .int .i64 k] W fun e w' => e = .returned (.bool false) ∧ NPS w w0 nb rb O c d S L C C2 w' := by
  have h0 := h
  obtain ⟨_, _, _, _, _, _, _, h⟩ := h
  refine (rn_double_no h.r k hk).mono ?_
  rintro e w' ⟨e1, rfl⟩
  exact ⟨e1, h0⟩
theorem np_rdouble (h : NPS w w0 nb rb O c d S L C C2 W) (k : Nat) (hk : k < L.length) (hroom : L.length < 600) :
    Calls Try.prog 27 #[.pointer (some ⟨rb, 0, none⟩), .int .i64 k] W fun e w' => e = .returned (.bool true) ∧ NPS w w0 nb rb O c d S (insS L (HL.el L k)) C C2 w' := by
  obtain ⟨seq, cu, m, ob, F, v1, v2, h⟩ := h
  refine (rn_double h.r k hk hroom).mono ?_
  rintro e w' ⟨rfl, v', hI, hF, hl⟩
  exact ⟨rfl, seq, cu, m, ob, F, v', v2, h.setr hI hF (np_low hl) (by rw [insS_length]; omega) h.cl⟩
theorem np_rdelay_i (h : NPS w w0 nb rb O c d S L C C2 W) (k b : Int) (hk : k < 0 ∨ (L.length : Int) ≤ k ∨ b < 0) :
    Calls Try.prog 28 #[.pointer (some ⟨rb, 0, none⟩), .int .i64 k, .int .i64 b] W fun e w' => e = .returned (.bool false) ∧ NPS w w0 nb rb O c d S L C C2 w' := by
  have h0 := h
  obtain ⟨_, _, _, _, _, _, _, h⟩ := h
  refine (rn_delay_no h.r k b hk).mono ?_
  rintro e w' ⟨e1, rfl⟩
  exact ⟨e1, h0⟩
theorem np_rdelay (h : NPS w w0 nb rb O c d S L C C2 W) (k : Nat) (hk : k < L.length) (b : Int) (hb0 : 0 ≤ b) (hb1 : b ≤ 9223372036854775807) (ha : -9223372036854775808 ≤ (HL.el L k).at' ∧ (HL.el L k).at' ≤ 9223372036854775807) :
    Calls Try.prog 28 #[.pointer (some ⟨rb, 0, none⟩), .int .i64 k, .int .i64 b] W fun e w' => e = .returned (.bool true) ∧ NPS w w0 nb rb O c d S (insS (L.take k ++ L.drop (k + 1)) ⟨later (HL.el L k).at' b, (HL.el L k).fr, (HL.el L k).to, (HL.el L k).da⟩) C C2 w' := by
  obtain ⟨seq, cu, m, ob, F, v1, v2, h⟩ := h
  have hll := h.ll
  have hcl := cut_length L k hk
  refine (rn_delay h.r k hk h.ll b hb0 hb1 ha).mono ?_
  rintro e w' ⟨rfl, v', hI, hF, hl⟩
  exact ⟨rfl, seq, cu, m, ob, F, v', v2, h.setr hI hF (np_low hl) (by rw [insS_length]; omega) h.cl⟩
theorem np_rcut (h : NPS w w0 nb rb O c d S L C C2 W) (hd : d ≤ 9000) (hl : C2.length < d) (a b : Int) (on : Bool) :
    Calls Try.prog 29 #[.pointer (some ⟨rb, 0, none⟩), .int .i64 a, .int .i64 b, .bool on] W fun e w' => e = .returned (.tuple #[]) ∧ NPS w w0 nb rb O c d S L C (cutC C2 a b on) w' := by
  obtain ⟨seq, cu, m, ob, F, v1, v2, h⟩ := h
  have hcl := cutC_length C2 a b on
  refine (rn_cutset h.r (by omega) a b on).mono ?_
  rintro e w' ⟨rfl, v', hI, hF, hl'⟩
  refine ⟨rfl, seq, cu, m, ob, F, v1, v', h.setr hI hF (fun k hk => ?_) h.ll (by omega)⟩
  rcases hk with e | e | e
  · exact .inl (.inl e)
  · exact .inl (.inr (.inl e))
  · exact .inr (hl' k e)
theorem NPS.cl (h : NPS w w0 nb rb O c d S L C C2 W) : C2.length ≤ d := by
  obtain ⟨a, b, e, f, g, i, j, h⟩ := h
  exact h.cl
/-- 'r.L = nil'. -/
theorem np_rnil (h : NPS w w0 nb rb O c d S L C C2 W) : NPS w w0 nb rb O c d S [] C C2 (W.setCell ⟨rb, 0, none⟩ (.slice none 0 0)) := by
  obtain ⟨seq, cu, m, ob, F, v1, v2, h⟩ := h
  obtain ⟨h1, h2, h3⟩ := h.r.row (w5 := W) (v5 := .slice none 0 0) (n5 := 0) (L' := []) (Below.refl _ W) (Below.refl _ W) (World.ownsRow_nil _ _ _ _) rfl
  exact ⟨seq, cu, m, ob, F, .slice none 0 0, v2, h.setr h1 h2 (np_low h3) (by simp) h.cl⟩
end
end Go.Proofs.Ythdpajgnigilhaa

/- A region that draws its order, one operation of which is loud and waits for all ahead of it: those ahead only read (walked once), those behind only move. No program in sight. (XLoudIn without a fence.) -/
namespace Go.Proofs.Ythdpajgnigilhaa
open Go.RowKit

namespace Loud
def full (l : List Oper) (n : Nat) (m : List Bool) : Array Bool := (m ++ List.replicate (l.length - n) false).toArray
/-- Each waits only for such as stand ahead of it. -/
def lowB (l : List Oper) (n : Nat) : Bool := (List.range n).all fun i => match l[i]? with
  | none => true
  | some o => o.after.all fun e => !Region.binds .any e || decide (e.on < i)
def headOk (l : List Oper) (n : Nat) : Bool := Region.sinkB .any l.toArray n && Region.chainB .any l.toArray n && lowB l n
def tailOk (l : List Oper) (n : Nat) : Bool :=
  decide (Region.ready .any l.toArray (full l n (List.replicate n true)) = [n]) && Region.noSelect l.toArray && Region.lexFrom .any l.toArray (l.drop (n + 1)).length (n + 1) ((full l n (List.replicate n true)).setIfInBounds n true)
def plainHead (l : List Oper) (n : Nat) : Bool := (l.take n).all (fun o => o.guard.isNone)

section
variable {P : Program} {l : List Oper} {C : World → Prop} {Q : Exit → Act → World → Prop}

theorem full_get {n : Nat} {m : List Bool} (hl : m.length = n) {j : Nat} (hj : j < n) (d : Bool) : (full l n m).getD j d = m.getD j d := by
  unfold full
  rw [Array.getD_eq_getD_getElem?, List.getElem?_toArray, List.getElem?_append_left (by omega), List.getD_eq_getElem?_getD]
theorem full_far {n : Nat} {m : List Bool} (hl : m.length = n) {j : Nat} (hj : n ≤ j) : (full l n m).getD j false = false := by
  unfold full
  rw [Array.getD_eq_getD_getElem?, List.getElem?_toArray, List.getElem?_append_right (by omega), List.getElem?_replicate]
  split <;> rfl
theorem least {m : List Bool} : ∀ (k : Nat), k < m.length → m.getD k true = false → ∃ x, x ≤ k ∧ m.getD x true = false ∧ ∀ y, y < x → m.getD y false = true := by
  intro k
  induction k using Nat.strongRecOn with
  | _ k ih =>
    intro hk hf
    by_cases h : ∃ y, y < k ∧ m.getD y true = false
    · obtain ⟨y, hy, hyf⟩ := h
      obtain ⟨x, h1, h2, h3⟩ := ih y hy (by omega) hyf
      exact ⟨x, by omega, h2, h3⟩
    · refine ⟨k, Nat.le_refl _, hf, fun y hy => ?_⟩
      cases hc : m.getD y false with
      | true => rfl
      | false =>
        refine absurd ⟨y, hy, ?_⟩ h
        rw [List.getD_eq_getElem?_getD, List.getElem?_eq_getElem (by omega)] at hc ⊢
        exact hc

theorem head_any {n T : Nat} {Q1 : Act → Prop} (hg : plainHead l n = true) (hn : n < l.length) (hO : headOk l n = true)
    (fin : ∀ a w, C w → Q1 a → wpAny P .any l.toArray Q T (full l n (List.replicate n true)) a w) :
    ∀ (fuel : Nat) (m : List Bool) (a : Act) (w : World), m.length = n → m.count false = fuel → HeadInv .any l.toArray n (full l n m) → C w → wpAnyQ P .any (l.take n).toArray C Q1 fuel m.toArray a → wpAny P .any l.toArray Q (fuel + T) (full l n m) a w
  | 0, m, a, w, hl, hc, _, hw, h => by
    have e : m = List.replicate n true := by
      rw [← hl]
      refine List.eq_replicate_of_mem (fun b hb => ?_)
      cases b with
      | true => rfl
      | false => exact absurd hb (List.count_eq_zero.1 hc)
    rw [Nat.zero_add, e]
    exact fin a w hw h.2
  | fuel + 1, m, a, w, hl, hc, inv, hw, h => by
    simp only [headOk, Bool.and_eq_true] at hO
    obtain ⟨⟨hs, hch⟩, hlow⟩ := hO
    have hex : ∃ k, k < m.length ∧ m.getD k true = false := by
      have h1 : false ∈ m := List.count_pos_iff.1 (by omega)
      obtain ⟨k, hk, e⟩ := List.getElem_of_mem h1
      exact ⟨k, hk, by rw [List.getD_eq_getElem?_getD, List.getElem?_eq_getElem hk, e]; rfl⟩
    obtain ⟨k, hk, hkf⟩ := hex
    have hwait : ∀ t, n ≤ t → t ∉ Region.ready .any l.toArray (full l n m) := tail_waits hs hch (by simpa using hn) inv _ k rfl (by omega) (by rw [full_get hl (by omega)]; exact hkf)
    rw [Nat.add_right_comm]
    refine ⟨fun h0 => ?_, fun i hi => ?_⟩
    · obtain ⟨x, hx1, hx2, hx3⟩ := least k hk hkf
      have hxn : x < n := by omega
      have hr : x ∈ Region.ready .any l.toArray (full l n m) := by
        refine mem_ready.2 ⟨by rw [full_get hl hxn]; exact hx2, l[x]'(by omega), by rw [List.getElem?_toArray]; exact List.getElem?_eq_getElem (by omega), fun e he hb => ?_⟩
        have h1 := List.all_eq_true.1 hlow x (List.mem_range.2 hxn)
        rw [List.getElem?_eq_getElem (by omega)] at h1
        simp only at h1
        have h2 := Array.all_eq_true_iff_forall_mem.1 h1 e he
        simp only [hb, Bool.not_true, Bool.false_or, decide_eq_true_eq] at h2
        rw [full_get hl (by omega)]
        exact hx3 _ h2
      rw [h0] at hr
      cases hr
    · have hin : i < n := by
        rcases Nat.lt_or_ge i n with h1 | h1
        · exact h1
        · exact absurd hi (hwait i h1)
      obtain ⟨hun, oi, hoi, hall⟩ := mem_ready.1 hi
      have hoi2 : (l.take n)[i]? = some oi := by rw [List.getElem?_take_of_lt hin, ← List.getElem?_toArray]; exact hoi
      have hunm : m.getD i true = false := by rw [← full_get hl hin]; exact hun
      have hi2 : i ∈ Region.ready .any (l.take n).toArray m.toArray := by
        refine mem_ready.2 ⟨by rw [Array.getD_eq_getD_getElem?, List.getElem?_toArray, ← List.getD_eq_getElem?_getD]; exact hunm, oi, by rw [List.getElem?_toArray]; exact hoi2, fun e he hb => ?_⟩
        have h1 := hall e he hb
        rcases Nat.lt_or_ge e.on n with h2 | h2
        · rw [full_get hl h2] at h1
          rw [Array.getD_eq_getD_getElem?, List.getElem?_toArray, ← List.getD_eq_getElem?_getD]
          exact h1
        · rw [full_far hl h2] at h1
          cases h1
      have hq := h.2 i hi2
      have hgd : oi.guard = none := by
        have := List.all_eq_true.1 hg oi (List.mem_of_getElem? hoi2)
        simpa using this
      have hset : (full l n m).setIfInBounds i true = full l n (m.set i true) := by
        unfold full
        rw [List.setIfInBounds_toArray, List.set_append_left _ _ (by omega)]
      have hinv := inv.set hi hin
      rw [hset] at hinv
      unfold qOp at hq
      unfold wpOp
      have hoi3 : (l.take n).toArray[i]? = some oi := by rw [List.getElem?_toArray]; exact hoi2
      simp only [hoi3, Region.wanted, hgd, if_true] at hq
      simp only [hoi, Region.wanted, hgd, if_true]
      refine .inl (Oper.wp_of_quiet hw (fun a' w' hw' hk => ?_) hq)
      rw [hset]
      refine head_any hg hn (by simp only [headOk, Bool.and_eq_true]; exact ⟨⟨hs, hch⟩, hlow⟩) fin fuel (m.set i true) a' w' (by rw [List.length_set, hl]) ?_ hinv hw' ?_
      · have e1 := List.count_set (a := true) (b := false) (l := m) (i := i) (by omega)
        have e2 : m[i]'(by omega) = false := by
          rw [List.getD_eq_getElem?_getD, List.getElem?_eq_getElem (by omega)] at hunm
          exact hunm
        rw [e1, e2]
        simp
        omega
      · rw [List.setIfInBounds_toArray] at hk
        exact hk

theorem wp_region_loud {id n : Nat} {a : Act} {w : World} {o : Oper} (C : World → Prop) (hg : plainHead l n = true) (ho : l[n]? = some o) (hog : o.guard = none) (hm : P.follows .mixedOrders = true)
    (hB : Region.lexB .any (l.take n).toArray = true) (hM : headOk l n = true) (hT : tailOk l n = true) (hC : C w.drew)
    (h : wpQuiet P (l.take n).toArray C (fun a' => ∀ w', C w' → ∀ K : Act → World → Prop, (∀ a2 w2, wpQuiet P l.toArray (fun x => x = w2) (fun a3 => Q .normal a3 w2) (l.drop (n + 1)) a2 → K a2 w2) → o.wp P a' w' K Q) (l.take n) a) :
    (Code.region id l.toArray true).wp P Q a w := by
  have hn : n < l.length := (List.getElem?_eq_some_iff.1 ho).1
  have hol : l.toArray[n]? = some o := by rw [List.getElem?_toArray]; exact ho
  simp only [tailOk, Bool.and_eq_true, decide_eq_true_eq] at hT
  obtain ⟨⟨hT1, hT2⟩, hT3⟩ := hT
  simp only [Region.lexB, Bool.and_eq_true] at hB
  refine wp_region_any hm ?_
  have hsz : l.toArray.size = n + ((l.drop (n + 1)).length + 1) := by rw [List.length_drop]; simp; omega
  have hlt : (l.take n).length = n := by rw [List.length_take]; omega
  have e0 : Array.replicate l.toArray.size false = full l n (List.replicate n false) := by
    unfold full
    rw [List.replicate_append_replicate, show n + (l.length - n) = l.toArray.size by simp; omega, ← List.toArray_replicate]
  rw [e0, hsz]
  have inv : HeadInv .any l.toArray n (full l n (List.replicate n false)) := by
    rw [← e0]
    exact ⟨by simp, fun j oj _ hl => (by rw [getD_replicate_false] at hl; cases hl), fun t _ ht => (by have h9 : t < l.length := (by simpa using ht); simp [h9])⟩
  refine head_any (C := C) hg hn hM ?_ n (List.replicate n false) a _ (by simp) (by simp) inv hC ?_ (Q1 := fun a' => ∀ w', C w' → ∀ K : Act → World → Prop, (∀ a2 w2, wpQuiet P l.toArray (fun x => x = w2) (fun a3 => Q .normal a3 w2) (l.drop (n + 1)) a2 → K a2 w2) → o.wp P a' w' K Q)
  · intro a' w' hw' hk
    refine ⟨fun h0 => absurd (hT1.symm.trans h0) (by simp), fun i hi => ?_⟩
    rw [hT1] at hi
    have hi : i = n := by simpa using hi
    subst hi
    unfold wpOp
    simp only [hol, Region.wanted, hog, if_true]
    refine .inl (hk w' hw' _ (fun a2 w2 h2 => ?_))
    refine wpAny_of_quiet (C := fun x => x = w2) (Q := fun a3 => Q .normal a3 w2) (fun a3 w3 hw3 hq => by rw [hw3]; exact hq) _ _ _ _ rfl ?_
    exact wpAnyQ_lex hT2 (l.drop (i + 1)) (i + 1) _ a2 (fun j => by rw [List.getElem?_drop, List.getElem?_toArray]) hT3 h2
  · have := wpAnyQ_lex (C := C) (md := .any) hB.1 (l.take n) 0 (Array.replicate (l.take n).toArray.size false) a (by simp) (by simpa using hB.2) h
    have e1 : Array.replicate (l.take n).toArray.size false = (List.replicate n false).toArray := by rw [List.size_toArray, hlt, List.toArray_replicate]
    rw [e1, hlt] at this
    exact this

/-- A call as the loud operation. -/
theorem wp_call {a : Act} {w : World} {K : Act → World → Prop} {o : Oper} {f : Nat} {args : Array Operand} {tys : Array TypeId} (ho : o.op = Op.call { callee := Callee.value (Operand.func f), args := args, argTypes := tys })
    (hen : ∀ ys w, (callFunc f ys).run P w = .ok (.enter f ys) w) (zs : Array Value) (hzs : args.toList.map a.eval = zs.toList) (h : Calls P f zs w fun e w' => ∃ v, e = .returned v ∧ K (a.put o.dst v) w') : o.wp P a w K Q := by
  have hzs : args.map a.eval = zs := by
    rw [← Array.toList_inj, Array.toList_map]
    exact hzs
  subst hzs
  unfold Oper.wp
  simp [execOp, ho, resolve, invoke, go_sem, hen, Oper.upon]
  refine h.mono ?_
  rintro e w' ⟨v, rfl, hk⟩
  exact hk
end
end Loud
end Go.Proofs.Ythdpajgnigilhaa

