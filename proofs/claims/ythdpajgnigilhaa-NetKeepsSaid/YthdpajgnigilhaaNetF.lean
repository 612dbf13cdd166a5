/- net's Net: find. -/
import Derived.Test.YthdpajgnigilhaaNetE
import Derived.Test.YthdpajgnigilhaaSortK
import Derived.Test.YthdpajgnigilhaaLayN
namespace Go.Proofs.Ythdpajgnigilhaa
open Go.RowKit Go.Shelf Go.Sort

theorem swo_due : SWO (ltOf cmpD) := by
  have h : ∀ x y, ltOf cmpD x y = wlt x y := fun x y => rfl
  refine ⟨fun x => ?_, fun x y z h1 h2 => ?_, fun x y z h1 h2 => ?_⟩
  · rw [h, wlt_false]; omega
  · rw [h, wlt_iff] at *; omega
  · rw [h, wlt_false] at *; omega

theorem wcells_one (x : Nd) : ∀ v ∈ wcells x, v.oneCell' = true := by
  intro v hv
  simp [wcells] at hv
  rcases hv with rfl | rfl | rfl | rfl | rfl <;> rfl

/-- Rising by time, of one time by number. -/
def SortedD (l : List Nd) : Prop := ∀ i j, i < j → j < l.length → wlt (HL.el l j) (HL.el l i) = false

theorem el_toArray (l : List Nd) (i : Nat) (hi : i < l.length) : l.toArray[i]! = HL.el l i := by
  simp [HL.el, List.getD, hi]

/-- slices.SortFunc of a row of dues that is owned. -/
theorem dsort_own (base : Nat) (v : Value) (zs : List Nd) (w : World) (h0 : 0 < zs.length) (hn : zs.length ≤ 1000000) (ho : w.ownsRow base 75 5 v zs.length (rowOf wcells zs)) :
    Calls Try.prog 52 #[v, .func (.func 47) #[] #[]] w fun e w' => e = .returned (.tuple #[]) ∧ ∃ ts, ts.Perm zs ∧ SortedD ts ∧ w'.ownsRow base 75 5 v zs.length (rowOf wcells ts) ∧ w.grownBy w' v.ownBlock := by
  rcases ho.2 with ⟨rfl, hz⟩ | ⟨gb, cap, cur, rfl, hbase, hgb, r1, r2, r3, r4⟩
  · omega
  · have hH : HoldsK wcells 5 w gb 0 zs.toArray := holdsK_of_own wcells wcells_length (by omega) hgb r4
    have hgl : gb < w.heap.size := (Array.getElem?_eq_some_iff.1 hgb).1
    have eg : ∀ args w, (callFunc 47 args).run Try.prog w = .ok (.enter 47 args) w := enters_of Try.func47 (by kernel_rfl) rfl
    have hs := AnyQ.slices_SortFunc Try.laySortD 5 Try.isAgg75 Try.sizeOf75 wcells wcells_length wcells_one cmpD swo_due 47 #[] gb 0 cap zs.toArray w eg (fun _ _ _ _ x y => compare_lays x y _) hH hgl (by simp; omega)
    change Calls Try.prog 52 _ _ _ at hs
    rw [List.size_toArray] at hs
    refine hs.mono ?_
    rintro e w' ⟨rfl, d', nn, os, hp, hsd, rfl⟩
    obtain ⟨ts, rfl⟩ : ∃ ts : List Nd, d' = ts.toArray := ⟨d'.toList, by simp⟩
    have hsz : ts.length = zs.length := by have := hp.1; simpa using this
    have hperm : ts.Perm zs := by
      have := hp.2.2
      rw [← hsz] at this
      simp at this
      rw [hsz] at this
      simpa using this
    refine ⟨rfl, ts, hperm, ?_, ownsRow_sortedK wcells wcells_length (by omega) hsz hbase hgb r1 r2 r3, grownBy_sortedK wcells _⟩
    intro i j hij hj
    have := hsd i j (Nat.zero_le _) hij (by omega)
    rw [el_toArray ts j hj, el_toArray ts i (by omega)] at this
    exact this

set_option maxRecDepth 100000 in
theorem dsorted_seq (Bs len cap : Nat) (p : Option Addr) (zs : List Nd) (h0 : 0 < len) (hbig : len ≤ 1000000) (w : World) (hBs : Bs < w.heap.size) (hc : w.cell? ⟨Bs, 0, none⟩ = some (.slice p len cap)) (hR : RdG wcells w w.heap.size p len zs) :
    Calls Try.prog 45 #[.func (.func 53) #[] #[.pointer (some ⟨Bs, 0, none⟩)], .func (.func 47) #[] #[]] w fun e w' =>
      ∃ v ts, e = .returned v ∧ ts.Perm zs ∧ SortedD ts ∧ w'.ownsRow w.heap.size 75 5 v zs.length (rowOf wcells ts) ∧ Below w.heap.size w w' := by
  have HA := Lib.hid (dcollect_seq Bs len cap p zs hbig w hBs hc hR)
  have HZ := Lib.hid hR.1
  clear hc hR
  go_enter Try.func45, Try.ntmps45
  go_wp2_with fail
  refine HA.out.mono ?_
  rintro e w1 ⟨v, rfl, ho, hb⟩
  have HO := Lib.hid ho
  have HB := Lib.hid hb
  clear ho hb
  go_wp2_with fail
  refine (dsort_own w.heap.size v zs w1 (by have := HZ.out; omega) (by have := HZ.out; omega) HO.out).mono ?_
  rintro e w2 ⟨rfl, ts, hp, hsd, ho2, hg⟩
  have HO2 := Lib.hid ho2
  have HG := Lib.hid hg
  have HP := Lib.hid hp
  have HS := Lib.hid hsd
  clear ho2 hg hp hsd
  go_wp2
  go_ret
  exact ⟨v, ts, rfl, HP.out, HS.out, HO2.out, HB.out.grown HG.out HB.out.size (fun k hk => (HO.out.lt k hk).1)⟩

theorem nets_rd {ab ao base : Nat} {q : Option Addr} {n d : Nat} {l : List Nd} {w : World} (h : NetsI ab ao base (.slice q n d) l w) : RdG wcells w w.heap.size q n l := by
  have ho := h.2.2.1
  obtain ⟨p', c', e⟩ := owns_slice ho
  injection e with _ e2 _
  subst e2
  exact RdG.of_own ho rfl

/-- slices.IndexFunc with find's closure. -/
theorem index_due (b n c B : Nat) (zs : List Nd) (y : Nd) (w : World) (hz : zs.length = n) (hbig : n ≤ 1000000) (hb : b < w.heap.size) (hB : B < w.heap.size)
    (hc : ∀ j u, (rowOf wcells zs)[j]? = some u → w.cell? ⟨b, j, none⟩ = some u)
    (hy : w.cell? ⟨B, 0, none⟩ = some (.int .i64 y.fr) ∧ w.cell? ⟨B, 0 + 1, none⟩ = some (.int .i64 y.to) ∧ w.cell? ⟨B, 0 + 2, none⟩ = some (.string y.da) ∧ w.cell? ⟨B, 0 + 3, none⟩ = some (.int .i64 y.at') ∧ w.cell? ⟨B, 0 + 4, none⟩ = some (.int .i64 y.sq)) :
    Calls Try.prog 48 #[.slice (some ⟨b, 0, none⟩) n c, .func (.func 49) #[] #[.pointer (some ⟨B, 0, none⟩)]] w fun e w' =>
      e = .returned (.int .i64 (Lib.idxBy (fun _ x => eqD x y) zs default)) ∧ Below w.heap.size w w' := by
  have eg : ∀ args w, (callFunc 49 args).run Try.prog w = .ok (.enter 49 args) w := enters_of Try.func49 (by kernel_rfl) rfl
  have hi := AnyQ.slices_IndexFunc Try.layIdx 5 Try.isAgg75 Try.sizeOf75 wcells wcells_length (fun x => eqD x y) 49 #[.pointer (some ⟨B, 0, none⟩)] eg b 0 n c zs w
    (fun W x hbw => (find_is x y B W ⟨(hbw.cell (p := ⟨B, 0, none⟩) hB).trans hy.1, (hbw.cell (p := ⟨B, 0 + 1, none⟩) hB).trans hy.2.1, (hbw.cell (p := ⟨B, 0 + 2, none⟩) hB).trans hy.2.2.1, (hbw.cell (p := ⟨B, 0 + 3, none⟩) hB).trans hy.2.2.2.1, (hbw.cell (p := ⟨B, 0 + 4, none⟩) hB).trans hy.2.2.2.2⟩).mono
      fun e w' ⟨he, hb'⟩ => ⟨he, hbw.trans (hb'.mono hbw.size)⟩) (by omega) (by omega) hb
    (fun j hj i v hv => by
      have hi5 : i < 5 := by have := (List.getElem?_eq_some_iff.1 hv).1; rw [wcells_length] at this; exact this
      have e1 : zs[j]! = zs.getD j default := by simp [List.getD, hj]
      rw [e1] at hv
      have r := rowOf_at wcells wcells_length zs j i hj hi5
      rw [hv] at r
      rw [Nat.zero_add]
      exact hc _ _ r)
  rw [List.take_of_length_le (by omega)] at hi
  exact hi

theorem idx_from (y : Nd) : ∀ (zs : List Nd) (s : Nat), y ∈ zs → ∃ i : Nat, i < zs.length ∧ Lib.idxByFrom (fun _ x => eqD x y) default zs s = ((s + i : Nat) : Int) ∧ HL.el zs i = y
  | [], _, h => by cases h
  | z :: zs, s, h => by
    by_cases e : eqD z y = true
    · exact ⟨0, by simp, by simp [Lib.idxByFrom, e], (eqD_eq z y).1 e⟩
    · have hne : y ∈ zs := by
        rcases List.mem_cons.1 h with h | h
        · exact absurd ((eqD_eq z y).2 h.symm) e
        · exact h
      obtain ⟨i, hi, he, hel⟩ := idx_from y zs (s + 1) hne
      refine ⟨i + 1, by simp; omega, ?_, hel⟩
      simp only [Lib.idxByFrom, e]
      rw [if_neg (by simp), he]
      congr 1
      omega

theorem idx_found (zs : List Nd) (y : Nd) (hy : y ∈ zs) : ∃ i : Nat, i < zs.length ∧ Lib.idxBy (fun _ x => eqD x y) zs default = (i : Int) ∧ HL.el zs i = y := by
  obtain ⟨i, h1, h2, h3⟩ := idx_from y zs 0 hy
  exact ⟨i, h1, by rw [Lib.idxBy, h2, Nat.zero_add], h3⟩

theorem el_mem {l : List Nd} {i : Nat} (h : i < l.length) : HL.el l i ∈ l := by
  have : HL.el l i = l[i] := by simp [HL.el, List.getD, h]
  rw [this]
  exact List.getElem_mem h

set_option maxHeartbeats 1000000 in
set_option maxRecDepth 100000 in
theorem net_find (nb base : Nat) (v : Value) (l : List Nd) (seq : Int) (k : Nat) (cu ch : Value) (w : World) (h : NetI nb base v l seq cu ch w) (hk : k < l.length) :
    Calls Try.prog 35 #[.pointer (some ⟨nb, 0, none⟩), .int .i64 k] w fun e w' => ∃ (i : Nat) (ts : List Nd), e = .returned (.int .i64 i) ∧ i < l.length ∧ ts.Perm l ∧ SortedD ts ∧ HL.el l i = HL.el ts k ∧ Below w.heap.size w w' := by
  obtain ⟨g, cap, hv, _, hg, _⟩ := owns_len h.h.2.2.1 (by omega)
  subst hv
  have hlt := cell_lt h.c1
  have hc := h.h.1
  have hm := h.h.2.2.2.2.1
  have HR := Lib.hid (nets_rd h.h)
  have hk0 : ¬ (k : Int) < 0 := by omega
  have hkl : ¬ (l.length : Int) ≤ k := by omega
  clear h
  go_enter Try.func35, Try.ntmps35
  go_wp2_with fail
  refine (dvalues_call (some ⟨g, 0, none⟩) l.length cap _).mono ?_
  rintro e w1 ⟨rfl, rfl⟩
  have hb : Below w.heap.size w (w.alloc (.cells #[.slice (some ⟨g, 0, none⟩) l.length cap] 47)) := (Below.refl _ _).alloc (Nat.le_refl _) _
  have HB := Lib.hid hb
  have HS := Lib.hid (dsorted_seq w.heap.size l.length cap (some ⟨g, 0, none⟩) l (by omega) (by omega) (w.alloc (.cells #[.slice (some ⟨g, 0, none⟩) l.length cap] 47)) (by simp) (by go_simp) ((HR.out.below hb).more (by simp)))
  clear hb
  go_wp2_with fail
  refine HS.out.mono ?_
  rintro e w2 ⟨u, ts, rfl, hp, hsd, ho, hb2⟩
  have hB2 : Below w.heap.size w w2 := HB.out.trans (hb2.mono (by simp))
  have hts : ts.length = l.length := hp.length_eq
  obtain ⟨g2, cap2, rfl, _, hg2, _⟩ := owns_len ho (by omega)
  have hx := rd_due (o := 0) (n := l.length) hts (fun j u hu => by
    have := ho.cells (g := g2) rfl j u hu
    rw [add_at] at this
    exact this) k (by omega)
  simp only [Nat.zero_add] at hx
  have hc2 := (hB2.cell (p := ⟨nb, 0, none⟩) hlt).trans hc
  have HX : Hid (HL.el ts k ∈ l) := Lib.hid (hp.mem_iff.1 (el_mem (by omega)))
  have hnb2 : nb < w2.heap.size := by have := hB2.size; omega
  have HRW := Lib.hid (HR.out.below hB2)
  have HP := Lib.hid hp
  have HSD := Lib.hid hsd
  have HB2 := Lib.hid hB2
  have hsz := hB2.size
  have HK : Hid (∀ x, HL.el ts k = x → ∃ i : Nat, i < l.length ∧ Lib.idxBy (fun _ z => eqD z x) l default = (i : Int) ∧ HL.el l i = x ∧ HL.el l i = HL.el ts k) := Lib.hid (fun x e => by
    obtain ⟨i, h1, h2, h3⟩ := idx_found l (HL.el ts k) HX.out
    subst e
    exact ⟨i, h1, h2, h3, h3⟩)
  clear hp hsd hB2 hb2 ho hts HB HR HS hc
  obtain ⟨x, hxe⟩ : ∃ x, HL.el ts k = x := ⟨_, rfl⟩
  rw [hxe] at hx
  obtain ⟨i, hi, hidx, hel, helk⟩ := HK.out x hxe
  have HE := Lib.hid helk
  have HXE := Lib.hid hxe
  have HID := Lib.hid hidx
  clear hxe helk hidx HK
  have HIX : Hid (∀ W, W = w2.alloc (.cells #[.int .i64 x.fr, .int .i64 x.to, .string x.da, .int .i64 x.at', .int .i64 x.sq] 75) → Calls Try.prog 48 #[.slice (some ⟨g, 0, none⟩) l.length cap, .func (.func 49) #[] #[.pointer (some ⟨w2.heap.size, 0, none⟩)]] W fun e w' =>
      e = .returned (.int .i64 i) ∧ Below W.heap.size W w') := Lib.hid (by
    rintro W rfl
    have hF : Below w2.heap.size w2 (w2.alloc (.cells #[.int .i64 x.fr, .int .i64 x.to, .string x.da, .int .i64 x.at', .int .i64 x.sq] 75)) := (Below.refl _ _).alloc (Nat.le_refl _) _
    obtain ⟨b, o, e, hb, hcc⟩ := HRW.out.2 (by omega)
    injection e with e
    injection e with e1 e2
    subst e1 e2
    have := index_due g l.length cap w2.heap.size l x (w2.alloc (.cells #[.int .i64 x.fr, .int .i64 x.to, .string x.da, .int .i64 x.at', .int .i64 x.sq] 75)) rfl (by omega) (by simp; omega) (by simp)
      (fun j u hu => by rw [← hcc j u hu, Nat.zero_add]; exact hF.cell (p := ⟨g, j, none⟩) (by show g < _; omega)) ⟨by go_simp, by go_simp, by go_simp, by go_simp, by go_simp⟩
    rw [HID.out] at this
    exact this)
  obtain ⟨x0, x1, x2, x3, x4⟩ := hx
  go_wp2_with fail
  refine (HIX.out _ rfl).mono ?_
  rintro e w3 ⟨rfl, hb3⟩
  go_wp2
  go_ret
  refine ⟨i, ts, rfl, hi, HP.out, HSD.out, HE.out, (HB2.out.alloc hsz _).trans (hb3.mono (by simp; omega))⟩
end Go.Proofs.Ythdpajgnigilhaa
