/- net's Net as a whole: Double, Delay; what there is not. -/
import Derived.Test.YthdpajgnigilhaaNetX
namespace Go.Proofs.Ythdpajgnigilhaa
open Go.RowKit Go.Conc

set_option maxRecDepth 100000 in
theorem net_find_no (nb base : Nat) (v : Value) (l : List Nd) (seq : Int) (k : Nat) (cu ch : Value) (w : World) (h : NetI nb base v l seq cu ch w) (hk : l.length ≤ k) :
    Calls Try.prog 35 #[.pointer (some ⟨nb, 0, none⟩), .int .i64 k] w fun e w' => e = .returned (.int .i64 (-1)) ∧ w' = w := by
  obtain ⟨q, d, hv⟩ := owns_slice h.h.2.2.1
  have hc := h.h.1
  rw [hv] at hc
  have hk0 : ¬ (k : Int) < 0 := by omega
  have hkl : (l.length : Int) ≤ k := by omega
  clear h hv
  generalize l.length = n at *
  go_enter Try.func35, Try.ntmps35
  go_wp2
  go_ret
  exact ⟨rfl, rfl⟩

section
variable {base nb : Nat} {S : List Nd} {seq : Int} {cu : Value} {m : Option Nat} {ob : Obj} {F : Nat → Prop} {w : World}

theorem nt_find_no (k : Nat) (h : Nt base nb S seq cu m ob F w) (hk : S.length ≤ k) : Calls Try.prog 35 #[.pointer (some ⟨nb, 0, none⟩), .int .i64 k] w fun e w' => e = .returned (.int .i64 (-1)) ∧ w' = w := by
  obtain ⟨v, ch, l, hI, hp, _⟩ := h
  exact net_find_no nb base v l seq k cu ch w hI (by rw [hp.length_eq]; exact hk)

set_option maxRecDepth 100000 in
theorem nt_pull_no (k : Nat) (h : Nt base nb S seq cu m ob F w) (hk : S.length ≤ k) :
    Calls Try.prog 25 #[.pointer (some ⟨nb, 0, none⟩), .int .i64 k] w fun e w' => e = .returned (.tuple #[pkv 0 0 ByteArray.empty, .bool false]) ∧ Below w.heap.size w w' := by
  have HF := Lib.hid (fun o => nt_find_no k (h.keep ((Fr.refl (fun _ => False) w).alloc o) (fun _ _ h => h) (fun _ _ h => h)) hk)
  clear h
  go_enter Try.func25, Try.ntmps25
  go_wp2_with fail
  refine (HF.out _).mono ?_
  rintro e w1 ⟨rfl, rfl⟩
  go_wp2
  exact bodyPost_ret (v := .tuple #[pkv 0 0 ByteArray.empty, .bool false]) (by simp [results, Try.results25, go_sem, pkv]; rfl) rfl ⟨rfl, by repeat (first | exact Below.refl _ _ | refine Below.drew ?_ | refine Below.alloc ?_ (by simp) _ | refine Below.setCell ?_ (by simp) _)⟩

set_option maxRecDepth 100000 in
theorem nt_drop_no (k : Nat) (h : Nt base nb S seq cu m ob F w) (hk : S.length ≤ k) :
    Calls Try.prog 12 #[.pointer (some ⟨nb, 0, none⟩), .int .i64 k] w fun e w' => e = .returned (.bool false) ∧ Below w.heap.size w w' := by
  have HP := Lib.hid (nt_pull_no k h hk)
  clear h
  go_enter Try.func12, Try.ntmps12
  go_wp2_with fail
  refine HP.out.mono ?_
  rintro e w1 ⟨rfl, hb⟩
  have HB := Lib.hid hb
  clear hb
  unfold pkv
  go_wp2
  go_ret
  exact ⟨rfl, HB.out.alloc HB.out.size _⟩

set_option maxRecDepth 100000 in
theorem nt_double_no (k : Nat) (h : Nt base nb S seq cu m ob F w) (hk : S.length ≤ k) :
    Calls Try.prog 16 #[.pointer (some ⟨nb, 0, none⟩), .int .i64 k] w fun e w' => e = .returned (.bool false) ∧ w' = w := by
  have HF := Lib.hid (nt_find_no k h hk)
  clear h
  go_enter Try.func16, Try.ntmps16
  go_wp2_with fail
  refine HF.out.mono ?_
  rintro e w1 ⟨rfl, rfl⟩
  go_wp2
  go_ret
  exact ⟨rfl, rfl⟩

set_option maxRecDepth 100000 in
theorem nt_delay_no (k : Nat) (by' : Int) (h : Nt base nb S seq cu m ob F w) (hk : S.length ≤ k) :
    Calls Try.prog 17 #[.pointer (some ⟨nb, 0, none⟩), .int .i64 k, .int .i64 by'] w fun e w' => e = .returned (.bool false) ∧ w' = w := by
  have HF := Lib.hid (nt_find_no k h hk)
  clear h
  go_enter Try.func17, Try.ntmps17
  go_wp2_with fail
  refine HF.out.mono ?_
  rintro e w1 ⟨rfl, rfl⟩
  go_wp2
  go_ret
  exact ⟨rfl, rfl⟩

set_option maxHeartbeats 1000000 in
set_option maxRecDepth 100000 in
theorem nt_double (k : Nat) (h : Nt base nb S seq cu m ob F w) (hk : k < S.length) (hroom : S.length < 600) (hs0 : 0 ≤ seq) (hs : seq ≤ 500000) :
    Calls Try.prog 16 #[.pointer (some ⟨nb, 0, none⟩), .int .i64 k] w fun e w' => e = .returned (.bool true) ∧ ∃ (x : Nd) (ts : List Nd), ts.Perm S ∧ SortedD ts ∧ x = HL.el ts k ∧
      ∃ F', Nt base nb (S ++ [⟨x.fr, x.to, x.da, x.at', seq + 1⟩]) (seq + 1) cu m ob F' w' ∧ Step F F' w w' := by
  obtain ⟨v, ch, l, hI, hp, hch, hcw, hmF, hge, hb, rfl⟩ := h
  have hl : k < l.length := by rw [hp.length_eq]; exact hk
  have hl6 : l.length < 600 := by rw [hp.length_eq]; exact hroom
  have HF := Lib.hid (net_find nb base v l seq k cu ch w hI hl)
  have HE := Lib.hid (fun (x : Nd) (w1 w' : World) (v' : Value) (l' : List Nd) (hb1 : Below w.heap.size w w1) (hN : NetI nb base v' l' (seq + 1) cu ch w') (hpp : l'.Perm (l ++ [⟨x.fr, x.to, x.da, x.at', seq + 1⟩])) (hF : Fr (netF nb v) w1 w') (hli : ∀ g, v'.ownBlock = some g → Lies v g w1.heap.size) =>
    nt_step hI hch hcw hmF hge hb hN (hpp.trans (hp.append_right [⟨x.fr, x.to, x.da, x.at', seq + 1⟩])) (Fr.trans (Fr.of_all (S := netF nb v) hb1) hF (fun _ h _ => h)) (fun g hg => (hli g hg).imp id (fun h => Nat.le_trans hb1.size h)))
  have HP := Lib.hid hp
  obtain ⟨g, cap, hv, -, hg, -⟩ := owns_len hI.h.2.2.1 (by omega)
  have HI := Lib.hid hI
  have hlt := cell_lt hI.c1
  have hv0 := hI.h.1
  rw [hv] at hv0
  have HV := Lib.hid hv
  clear hI hch hcw hmF hge hb hp hv hroom hk
  go_enter Try.func16, Try.ntmps16
  go_wp2_with fail
  refine HF.out.mono ?_
  rintro e w1 ⟨i, ts, rfl, hi, hts, hsd, hel, hb1⟩
  have hi0 : ¬ (i : Int) < 0 := by omega
  have hfull : ¬ (600 : Int) ≤ l.length := by omega
  have HTS := Lib.hid (And.intro hts (And.intro hsd hel))
  have HB1 := Lib.hid hb1
  have hI1 := HI.out.keep (Fr.of_all (S := fun _ => False) hb1) (fun _ _ h => h)
  have hv1 : w1.cell? ⟨nb, 0, none⟩ = some (.slice (some ⟨g, 0, none⟩) l.length cap) := (hb1.cell (p := ⟨nb, 0, none⟩) hlt).trans hv0
  have hnw1 : nb < w1.heap.size := by have := hb1.size; omega
  have hI1' := HV.out ▸ hI1
  have hx := hI1'.h.cells rfl i hi
  have HI1 := Lib.hid hI1
  clear hts hsd hel hb1 hI1 hI1' hv0 hlt
  obtain ⟨x, hxe⟩ : ∃ x, HL.el l i = x := ⟨_, rfl⟩
  rw [hxe] at hx
  have HXE := Lib.hid hxe
  clear hxe
  obtain ⟨x0, x1, x2, x3, x4⟩ := hx
  have hgw : g < w1.heap.size := cell_lt x0
  go_wp2_with fail
  refine region_tail 17 (by kernel_rfl) (by kernel_rfl) (fun V => V.cell? ⟨nb, 0, none⟩ = some (.slice (some ⟨g, 0, none⟩) l.length cap) ∧ V.cell? ⟨g, i * 5, none⟩ = some (.int .i64 x.fr) ∧ V.cell? ⟨g, i * 5 + 1, none⟩ = some (.int .i64 x.to) ∧ V.cell? ⟨g, i * 5 + 2, none⟩ = some (.string x.da) ∧ V.cell? ⟨g, i * 5 + 3, none⟩ = some (.int .i64 x.at') ∧ Hid (NetI nb base v l seq cu ch V) ∧ Hid (Below w.heap.size w V)) ⟨hv1, x0, x1, x2, x3, Lib.hid (HI1.out.keep ((Fr.refl (fun _ => False) w1).drew) (fun _ _ h => h)), Lib.hid HB1.out.drew⟩ ?_
  rintro V ⟨c0, d0, d1, d2, d3, HV2, HF2⟩
  clear HI1 HB1 hv1 x0 x1 x2 x3 x4
  have HPU := Lib.hid (net_push nb base v l seq x.at' x.fr x.to x.da cu ch V HV2.out hs0 (by omega) (by omega))
  simp only [List.take_succ_cons, List.take_zero, List.drop_succ_cons, List.drop_zero]
  iterate 17 still_step
  refine wpStill_nil ?_
  go_wp2_with fail
  refine HPU.out.mono ?_
  rintro e w2 ⟨rfl, v', l', hN, hpp, hFr, hli⟩
  have HEND := Lib.hid (HE.out x V w2 v' l' HF2.out hN hpp hFr hli)
  clear hN hpp hFr hli HPU HV2 HE
  go_wp2
  go_ret
  obtain ⟨F', hN, hst⟩ := HEND.out
  exact ⟨rfl, x, ts, HTS.out.1.trans HP.out, HTS.out.2.1, by rw [← HXE.out, HTS.out.2.2], F', hN, hst⟩

set_option maxHeartbeats 1000000 in
set_option maxRecDepth 100000 in
theorem nt_delay (k : Nat) (by' : Int) (h : Nt base nb S seq cu m ob F w) (hk : k < S.length) (hat : ∀ y ∈ S, 0 ≤ y.at' ∧ y.at' ≤ 1000000) (hy0 : 0 ≤ by') (hy : by' ≤ 1000000) (hsl : S.length ≤ 1000) (hs0 : 0 ≤ seq) (hs : seq ≤ 500000) :
    Calls Try.prog 17 #[.pointer (some ⟨nb, 0, none⟩), .int .i64 k, .int .i64 by'] w fun e w' => e = .returned (.bool true) ∧ ∃ (x : Nd) (ts : List Nd), ts.Perm S ∧ SortedD ts ∧ x = HL.el ts k ∧
      ∃ S1 F', (x :: S1).Perm S ∧ Nt base nb (S1 ++ [⟨x.fr, x.to, x.da, x.at' + by', seq + 1⟩]) (seq + 1) cu m ob F' w' ∧ Step F F' w w' := by
  obtain ⟨v, ch, l, hI, hp, hch, hcw, hmF, hge, hb, rfl⟩ := h
  have hl : k < l.length := by rw [hp.length_eq]; exact hk
  have hl6 : l.length ≤ 1000 := by rw [hp.length_eq]; exact hsl
  have HF := Lib.hid (net_find nb base v l seq k cu ch w hI hl)
  have HR0 := Lib.hid (fun (i : Nat) (hn : i < l.length) W (hI : NetI nb base v l seq cu ch W) => heap_remove_nets nb 0 base v l i W hI.h hI.hp hn)
  have HE := Lib.hid (fun (S1 : List Nd) (_ w' : World) (v' : Value) (l' : List Nd) (hN : NetI nb base v' l' (seq + 1) cu ch w') (hpp : l'.Perm S1) (hF : Fr (netF nb v) w w') (hli : ∀ g, v'.ownBlock = some g → Lies v g w.heap.size) =>
    nt_step hI hch hcw hmF hge hb hN hpp hF hli)
  have HAT : Hid (∀ i, i < l.length → 0 ≤ (HL.el l i).at' ∧ (HL.el l i).at' ≤ 1000000) := Lib.hid (fun i hi => hat _ (hp.mem_iff.1 (HL.el_mem l i hi)))
  have HP := Lib.hid hp
  have HI := Lib.hid hI
  have hlt := cell_lt hI.c1
  have hta := ta_wt
  have hyn : ¬ by' < 0 := by omega
  clear hI hch hcw hmF hge hb hp hk hat hsl
  go_enter Try.func17, Try.ntmps17
  go_wp2_with fail
  refine HF.out.mono ?_
  rintro e w1 ⟨i, ts, rfl, hi, hts, hsd, hel, hb1⟩
  have hi0 : ¬ (i : Int) < 0 := by omega
  have HTS := Lib.hid (And.intro hts (And.intro hsd hel))
  have HB1 := Lib.hid hb1
  have HI1 := Lib.hid (HI.out.keep (Fr.of_all (S := fun _ => False) hb1) (fun _ _ h => h))
  have HRM := Lib.hid (HR0.out i hi w1 HI1.out)
  have hxa := HAT.out i hi
  clear hts hsd hel hb1 HR0
  obtain ⟨x, hxe⟩ : ∃ x, HL.el l i = x := ⟨_, rfl⟩
  rw [hxe] at HRM hxa
  have HXE := Lib.hid hxe
  clear hxe
  go_wp2_with fail
  refine HRM.out.mono ?_
  rintro e w2 ⟨u, rfl, v', l', rfl, hI2, hh, hp2, hfr, hv', hoth⟩
  have HN2 : Hid (NetI nb base v' l' seq cu ch w2) := Lib.hid ⟨hI2, (hoth 1 (by omega)).1.trans HI1.out.c1, (hoth 1 (by omega)).2.trans HI1.out.f1, (hoth 2 (by omega)).1.trans HI1.out.c2, (hoth 2 (by omega)).2.trans HI1.out.f2, (hoth 3 (by omega)).1.trans HI1.out.c3, (hoth 3 (by omega)).2.trans HI1.out.f3, hh⟩
  have HFR := Lib.hid (Fr.trans (Fr.of_all (S := netF nb v) HB1.out) hfr (fun i hi _ => hi))
  have HV' := Lib.hid hv'
  have HP2 := Lib.hid hp2
  have hFA : Fr (fun _ => False) w2 (w2.alloc (.cells #[.int .i64 x.fr, .int .i64 x.to, .string x.da, .int .i64 x.at', .int .i64 x.sq] 75)) := (Fr.refl _ w2).alloc _
  have HN3 := Lib.hid (HN2.out.keep hFA (fun _ _ h => h))
  have hll : l'.length < 1000000 := by have := hp2.length_eq; simp at this; omega
  have hcmp : ¬ (9223372036854775807 - by') < x.at' := by omega
  have hadd : IntKind.i64.wrap (x.at' + by') = x.at' + by' := IntWalk.i64_in _ (by omega)
  have HPU := Lib.hid (net_push nb base v' l' seq (x.at' + by') x.fr x.to x.da cu ch _ HN3.out hs0 (by omega) hll)
  have HFA := Lib.hid hFA
  clear hI2 hh hp2 hfr hv' hoth hFA hll HRM HI1 HN2
  go_wp2_with fail
  refine HPU.out.mono ?_
  rintro e w4 ⟨rfl, v3, l3, hN, hpp, hFr, hli⟩
  have HFW : Hid (Fr (netF nb v) w w4) := Lib.hid (Fr.trans (Fr.trans HFR.out (HFA.out.mono (fun _ _ h => h.elim)) (fun _ h _ => h)) hFr (fun i hi _ => by
    rcases hi with hi | hi
    · exact .inl hi
    · exact .inr (by rw [← HV'.out]; exact hi)))
  have hszz : w.heap.size ≤ (w2.alloc (.cells #[.int .i64 x.fr, .int .i64 x.to, .string x.da, .int .i64 x.at', .int .i64 x.sq] 75)).heap.size := Nat.le_trans HFR.out.size HFA.out.size
  have HEND := Lib.hid (HE.out _ w2 w4 v3 l3 hN hpp HFW.out (fun g hg => by
    rcases hli g hg with h | h
    · exact .inl (by rw [← HV'.out]; exact h)
    · exact .inr (Nat.le_trans hszz h)))
  clear hN hpp hFr hli HPU HE hszz
  go_wp2
  go_ret
  obtain ⟨F', hN, hst⟩ := HEND.out
  exact ⟨rfl, x, ts, HTS.out.1.trans HP.out, HTS.out.2.1, by rw [← HXE.out, HTS.out.2.2], l', F', HP2.out.trans HP.out, hN, hst⟩
end
end Go.Proofs.Ythdpajgnigilhaa
