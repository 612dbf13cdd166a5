/- arboretumlaw3.PileFirst returns true, whatever its arguments; nothing that was there is changed. -/
import Derived.Test.YtllmdhkeapabjaaAlive
import Derived.Test.YtllmdhkeapabjaaDueL
namespace Go.Proofs.Ytllmdhkeapabjaa
open Go.RowKit

def FirstRel (zs : List Int) (w : World) (pb base : Nat) (v : Value) (lp : List Int) (lb : Nat) (i : Nat) (wr : World) : Prop :=
  ∃ vl l, LineI lb lb vl l i wr ∧ l.Perm (dl zs i) ∧ PileI pb base v lp wr ∧ Below w.heap.size w wr

theorem PileI.ge {pb base : Nat} {v : Value} {l : List Int} {w : World} (h : PileI pb base v l w) (hb : base ≤ pb) : ∀ k, pileF pb v k → base ≤ k := by
  rintro k (rfl | hk)
  · exact hb
  · exact (h.1.2.2.1.lt k hk).1

/-- First and Take of a pile, in one form. -/
theorem pile_any (pb base : Nat) (v : Value) (l : List Int) : ∃ (a : Int) (x : Bool), (x = decide (0 < l.length)) ∧
    (∀ w, PileI pb base v l w → Calls Try.prog 14 #[.pointer (some ⟨pb, 0, none⟩)] w fun e w' => e = .returned (.tuple #[.int .i64 a, .bool x]) ∧ w = w') ∧
    (∀ w, PileI pb base v l w → Calls Try.prog 15 #[.pointer (some ⟨pb, 0, none⟩)] w fun e w' => e = .returned (.tuple #[.int .i64 a, .bool x]) ∧ Fr (pileF pb v) w w') := by
  by_cases h : 0 < l.length
  · refine ⟨HL.el l 0, true, by simp [h], fun w hP => pile_first_some pb base v l w hP h, fun w hP => (pile_take_some pb base v l w hP h).mono ?_⟩
    rintro e w' ⟨he, _, _, _, _, hf, _⟩
    exact ⟨he, hf⟩
  · have : l = [] := List.eq_nil_of_length_eq_zero (by omega)
    subst this
    refine ⟨0, false, by simp, fun w hP => pile_first_none pb base v w hP, fun w hP => (pile_take_none pb base v w hP).mono ?_⟩
    rintro e w' ⟨he, rfl⟩
    exact ⟨he, Fr.refl _ _⟩

/-- First and Take of a line, in one form. -/
theorem line_any (lb base : Nat) (v : Value) (l : List (Int × Int × Int)) (seq now : Int) : ∃ (d f : Int × Int × Int) (u t : Bool), ((t = true ∧ f = d ∧ d.1 ≤ now) ∨ (t = false ∧ (l.length = 0 ∨ now < d.1))) ∧
    (∀ w, LineI lb base v l seq w → Calls Try.prog 16 #[.pointer (some ⟨lb, 0, none⟩)] w fun e w' => e = .returned (.tuple #[dv d, .bool u]) ∧ Below w.heap.size w w') ∧
    (∀ w, LineI lb base v l seq w → Calls Try.prog 11 #[.pointer (some ⟨lb, 0, none⟩), .int .i64 now] w fun e w' => e = .returned (.tuple #[dv f, .bool t]) ∧ Fr (lineF lb v) w w') := by
  by_cases h : 0 < l.length
  · by_cases hd : (HL.el l 0).1 ≤ now
    · refine ⟨HL.el l 0, HL.el l 0, true, true, .inl ⟨rfl, rfl, hd⟩, fun w hL => line_first_some lb base v l seq w hL h, fun w hL => (line_take_due lb base v l seq now w hL h hd).mono ?_⟩
      rintro e w' ⟨he, _, _, _, _, hf, _⟩
      exact ⟨he, hf⟩
    · refine ⟨HL.el l 0, (0, 0, 0), true, false, .inr ⟨rfl, .inr (by omega)⟩, fun w hL => line_first_some lb base v l seq w hL h, fun w hL => (line_take_early lb base v l seq now w hL h (by omega)).mono ?_⟩
      rintro e w' ⟨he, hb⟩
      exact ⟨he, Fr.of_all hb⟩
  · have : l = [] := List.eq_nil_of_length_eq_zero (by omega)
    subst this
    refine ⟨(0, 0, 0), (0, 0, 0), false, false, .inr ⟨rfl, .inl rfl⟩, fun w hL => line_first_none lb base v seq w hL, fun w hL => (line_take_none lb base v seq now w hL).mono ?_⟩
    rintro e w' ⟨he, hb⟩
    exact ⟨he, Fr.of_all hb⟩

set_option maxHeartbeats 2000000 in
set_option maxRecDepth 100000 in
theorem pileFirst_walk (p : Option Addr) (n c : Nat) (zs : List Int) (now : Int) (w : World) (h : RdI w w.heap.size p n zs) :
    Calls Try.prog 4 #[.slice p n c, .int .i64 now] w fun e w' => e = .returned (.bool true) ∧ Below w.heap.size w w' := by
  by_cases hn : 60 < n
  · clear h
    go_enter Try.func4, Try.ntmps4
    go_wp2_with (go_at_call 8; refine (alive_true _).mono ?_; rintro e w' ⟨rfl, hb⟩)
    go_ret
    exact ⟨rfl, hb⟩
  · have hn' : n ≤ 60 := by omega
    clear hn
    have HZ := Lib.hid h
    have HZL := Lib.hid h.1
    have HN := Lib.hid (pile_new p n c zs w h (by omega))
    clear h
    go_enter Try.func4, Try.ntmps4
    go_wp2_with fail
    refine HN.out.mono ?_
    rintro e w1 ⟨pb, v, lp, rfl, hpb, hP, hpp, hb1⟩
    have hs1 := hb1.size
    have HPL := Lib.hid hP.lt
    have HPG := Lib.hid (hP.ge hpb)
    have HPP := Lib.hid hpp
    have HP1 := Lib.hid hP
    have HB1 := Lib.hid hb1
    clear hP hb1 hpp HN
    go_wp2_with fail
    refine (line_new _).mono ?_
    rintro e w2 ⟨rfl, hL, hb2⟩
    have HST : Hid (FirstRel zs w pb w.heap.size v lp w1.heap.size 0 w2) := ⟨_, [], hL, by simp [dl], HP1.out.keep (Fr.of_all (S := fun _ => False) hb2) (fun _ _ h => h), HB1.out.trans (hb2.mono hs1)⟩
    clear hL hb2 HP1 HB1
    obtain ⟨lb, hlb⟩ : ∃ lb, lb = w1.heap.size := ⟨_, rfl⟩
    rw [← hlb] at HST HPL hs1 ⊢
    clear hlb
    go_wp2
    go_loopw [7] (fun iv wr => ∃ i : Nat, i ≤ n ∧ iv = .int .i64 i ∧ FirstRel zs w pb w.heap.size v lp lb i wr) (fun iv _ => n - (intOf iv).toNat)
    case atStart => exact ⟨0, Nat.zero_le _, rfl, HST.out⟩
    case round =>
      clear HST
      obtain ⟨i, hi, rfl, vl, l, hL, hp, hP, hb⟩ := hrel
      have HGE := Lib.hid (hL.ge (Nat.le_refl _))
      have HLP := Lib.hid hp
      have hbs := hb.size
      by_cases hlt : i < n
      · obtain ⟨b, o, e, hbl, hc⟩ := (HZ.out.below hb).2 (by omega)
        have hcell := hc i hlt
        clear hc
        subst e
        have hl : l.length < 1000000 := by rw [hp.length_eq, dl_length]; omega
        have HPU := Lib.hid (line_put lb lb vl l i (HL.el zs i) i wr hL (by omega) (by omega) hl)
        have HB := Lib.hid hb
        have HPI := Lib.hid hP
        clear hL hp hb hP
        generalize hx : HL.el zs i = x at *
        have HX := Lib.hid hx; clear hx
        go_wp2_with fail
        refine HPU.out.mono ?_
        rintro e w2 ⟨rfl, v2, l2, hL2, hp2, hF2, _⟩
        have HR : Hid (FirstRel zs w pb w.heap.size v lp lb (i + 1) w2) := ⟨v2, l2, by simpa using hL2, by rw [dl_succ, HX.out]; exact hp2.trans (HLP.out.append_right _), HPI.out.keep hF2 (fun k hk hs => by have := HGE.out k hs; have := HPL.out k hk; omega), HB.out.trans (hF2.below hbs (fun k hk => by have := HGE.out k hk; omega))⟩
        clear hL2 hp2 hF2
        go_wp2
        go_roundw
        case rel => exact ⟨i + 1, by omega, by go_num, HR.out⟩
        case measure => simp [intOf]; omega
      · have : i = n := by omega
        subst this
        have hll : l.length = i := by rw [hp.length_eq, dl_length]
        have hlpl : lp.length = i := by rw [HPP.out.length_eq, HZL.out]
        have HL1 := Lib.hid hL
        have HP1 := Lib.hid hP
        have HB := Lib.hid hb
        clear hL hP hb hp
        obtain ⟨pa, px, hpx, hpf, hpt⟩ := pile_any pb w.heap.size v lp
        obtain ⟨⟨d1, d2, d3⟩, ⟨f1, f2, f3⟩, u, t, hut, hlf, hlt'⟩ := line_any lb lb vl l i now
        rw [hlpl] at hpx
        rw [hll] at hut
        have HPX := Lib.hid hpx
        have HUT := Lib.hid hut
        have HPF := Lib.hid hpf
        have HPT := Lib.hid hpt
        have HLF := Lib.hid hlf
        have HLT := Lib.hid hlt'
        have HLL := Lib.hid HL1.out.lt
        clear hpx hut hpf hpt hlf hlt' hll hlpl HZ HZL HPP HPG HLP
        go_wp2_with fail
        refine (HPF.out _ HP1.out).mono ?_
        rintro e w3 ⟨rfl, rfl⟩
        go_wp2_with fail
        refine (HPF.out _ HP1.out).mono ?_
        rintro e w3 ⟨rfl, rfl⟩
        go_wp2_with fail
        refine (HPT.out _ HP1.out).mono ?_
        rintro e w3 ⟨rfl, hF3⟩
        have HB3 := Lib.hid (HB.out.trans (hF3.below hbs (HP1.out.ge hpb)))
        have HL3 := Lib.hid (HL1.out.keep hF3 (fun k hk hs => by have := HGE.out k hk; have := HPL.out k hs; omega))
        clear hF3 HB HL1 HP1 HPF HPT
        go_wp2_with fail
        refine (HLF.out _ HL3.out).mono ?_
        rintro e w4 ⟨rfl, hb4⟩
        obtain ⟨W4, hW4⟩ : ∃ W, W = w4.alloc (.cells #[.int .i64 d1, .int .i64 d2, .int .i64 d3] 28) := ⟨_, rfl⟩
        have HC4 : Hid (W4.cell? ⟨w4.heap.size, 0, none⟩ = some (.int .i64 d1) ∧ W4.cell? ⟨w4.heap.size, 1, none⟩ = some (.int .i64 d2) ∧ W4.cell? ⟨w4.heap.size, 2, none⟩ = some (.int .i64 d3)) := by rw [hW4]; exact ⟨by go_simp, by go_simp, by go_simp⟩
        have HB4 : Hid (Below w.heap.size w W4) := by rw [hW4]; exact (HB3.out.trans (hb4.mono HB3.out.size)).alloc (Nat.le_trans HB3.out.size hb4.size) _
        have HL4 : Hid (LineI lb lb vl l i W4) := by rw [hW4]; exact (HL3.out.keep (Fr.of_all (S := fun _ => False) hb4) (fun _ _ h => h)).keep ((Fr.refl (fun _ => False) w4).alloc _) (fun _ _ h => h)
        have HLW4 : Hid (¬ lineF lb vl w4.heap.size) := fun h => by have := (HL3.out.keep (Fr.of_all (S := fun _ => False) hb4) (fun _ _ h => h)).lt _ h; omega
        clear hb4 HB3 HL3
        go_wp2_with fail
        rw [← hW4]
        clear hW4
        generalize w4.heap.size = b4 at *
        refine (HLF.out _ HL4.out).mono ?_
        rintro e w5 ⟨rfl, hb5⟩
        obtain ⟨W5, hW5⟩ : ∃ W, W = w5.alloc (.cells #[.int .i64 d1, .int .i64 d2, .int .i64 d3] 28) := ⟨_, rfl⟩
        have HF45 : Hid (Fr (fun _ => False) W4 W5) := by rw [hW5]; exact (Fr.of_all hb5).alloc _
        have HC5 : Hid (W5.cell? ⟨w5.heap.size, 0, none⟩ = some (.int .i64 d1) ∧ W5.cell? ⟨w5.heap.size, 1, none⟩ = some (.int .i64 d2) ∧ W5.cell? ⟨w5.heap.size, 2, none⟩ = some (.int .i64 d3)) := by rw [hW5]; exact ⟨by go_simp, by go_simp, by go_simp⟩
        have HB5 := Lib.hid (HB4.out.trans (HF45.out.below HB4.out.size (fun _ h => h.elim)))
        have HL5 := Lib.hid (HL4.out.keep HF45.out (fun _ _ h => h))
        have HLW5 : Hid (¬ lineF lb vl w5.heap.size) := fun h => by have := (HL4.out.keep (Fr.of_all (S := fun _ => False) hb5) (fun _ _ h => h)).lt _ h; omega
        have HC45 : Hid (W5.cell? ⟨b4, 0, none⟩ = some (.int .i64 d1) ∧ W5.cell? ⟨b4, 1, none⟩ = some (.int .i64 d2) ∧ W5.cell? ⟨b4, 2, none⟩ = some (.int .i64 d3)) :=
          ⟨(HF45.out.cell (p := ⟨b4, 0, none⟩) (cell_lt HC4.out.1) (fun h => h)).trans HC4.out.1, (HF45.out.cell (p := ⟨b4, 1, none⟩) (cell_lt HC4.out.2.1) (fun h => h)).trans HC4.out.2.1, (HF45.out.cell (p := ⟨b4, 2, none⟩) (cell_lt HC4.out.2.2) (fun h => h)).trans HC4.out.2.2⟩
        clear hb5 HB4 HL4 HC4
        go_wp2_with fail
        rw [← hW5]
        clear hW5
        generalize w5.heap.size = b5 at *
        refine (HLT.out _ HL5.out).mono ?_
        rintro e w6 ⟨rfl, hF6⟩
        have HC56 : Hid ((w6.cell? ⟨b4, 0, none⟩ = some (.int .i64 d1) ∧ w6.cell? ⟨b4, 1, none⟩ = some (.int .i64 d2) ∧ w6.cell? ⟨b4, 2, none⟩ = some (.int .i64 d3)) ∧ (w6.cell? ⟨b5, 0, none⟩ = some (.int .i64 d1) ∧ w6.cell? ⟨b5, 1, none⟩ = some (.int .i64 d2) ∧ w6.cell? ⟨b5, 2, none⟩ = some (.int .i64 d3))) :=
          ⟨⟨(hF6.cell (p := ⟨b4, 0, none⟩) (cell_lt HC45.out.1) HLW4.out).trans HC45.out.1, (hF6.cell (p := ⟨b4, 1, none⟩) (cell_lt HC45.out.2.1) HLW4.out).trans HC45.out.2.1, (hF6.cell (p := ⟨b4, 2, none⟩) (cell_lt HC45.out.2.2) HLW4.out).trans HC45.out.2.2⟩,
           ⟨(hF6.cell (p := ⟨b5, 0, none⟩) (cell_lt HC5.out.1) HLW5.out).trans HC5.out.1, (hF6.cell (p := ⟨b5, 1, none⟩) (cell_lt HC5.out.2.1) HLW5.out).trans HC5.out.2.1, (hF6.cell (p := ⟨b5, 2, none⟩) (cell_lt HC5.out.2.2) HLW5.out).trans HC5.out.2.2⟩⟩
        have HB6 := Lib.hid (HB5.out.trans (hF6.below HB5.out.size (fun k hk => by have := HGE.out k hk; omega)))
        clear hF6 HB5 HL5 HC5 HC45 HF45 HLF HLT HLW4 HLW5
        obtain ⟨⟨c0, c1, c2⟩, ⟨e0, e1, e2⟩⟩ := HC56.out
        clear HC56
        have l4 := cell_lt c0
        have l5 := cell_lt e0
        have g1 : (pa != pa) = false := by simp
        have g3 : (!(u == u)) = false := by simp
        have HA := Lib.hid (fun o => alive_true (w6.alloc o))
        have hcase : ((px = true ∧ 0 < i) ∨ (px = false ∧ i = 0)) := by
          rw [HPX.out]
          rcases Nat.eq_zero_or_pos i with h | h
          · exact .inr ⟨by simp [h], h⟩
          · exact .inl ⟨by simp [h], h⟩
        have hut := HUT.out
        clear HPX HUT HGE HPL HLL
        have fin : ∀ (o : Obj) (w7 : World), Below (w6.alloc o).heap.size (w6.alloc o) w7 → Below w.heap.size w w7 ∧ (∀ b k, b < w6.heap.size → w7.cell? ⟨b, k, none⟩ = w6.cell? ⟨b, k, none⟩) ∧ (∀ k, w7.cell? ⟨w6.heap.size, k, none⟩ = (w6.alloc o).cell? ⟨w6.heap.size, k, none⟩) ∧ w6.heap.size < w7.heap.size := by
          intro o w7 hb7
          refine ⟨(HB6.out.alloc HB6.out.size _).trans (hb7.mono (by simp; have := HB6.out.size; omega)), fun b k hb => ?_, fun k => hb7.cell (by simp), by have := hb7.size; simp at this; omega⟩
          rw [hb7.cell (by simp; omega), World.cell?_alloc_lt _ _ _ hb]
        have FIN := Lib.hid fin
        clear fin
        rcases hut with ⟨rfl, hfd, hdn⟩ | ⟨rfl, hd⟩
        · simp only [Prod.mk.injEq] at hfd
          obtain ⟨rfl, rfl, rfl⟩ := hfd
          rcases hcase with ⟨rfl, hi0⟩ | ⟨rfl, rfl⟩
          all_goals
            go_wp2_with fail
            refine (HA.out _).mono ?_
            rintro e w7 ⟨rfl, hb7⟩
            obtain ⟨k1, k2, k3, k4⟩ := FIN.out _ w7 hb7
            have c0' := (k2 b4 0 l4).trans c0
            have c1' := (k2 b4 1 l4).trans c1
            have c2' := (k2 b4 2 l4).trans c2
            have x0 : w7.cell? ⟨w6.heap.size, 0, none⟩ = some (.int .i64 f1) := by rw [k3]; go_simp
            have x1 : w7.cell? ⟨w6.heap.size, 1, none⟩ = some (.int .i64 f2) := by rw [k3]; go_simp
            have x2 : w7.cell? ⟨w6.heap.size, 2, none⟩ = some (.int .i64 f3) := by rw [k3]; go_simp
            have HB7 := Lib.hid k1
            clear hb7 k1 k2 k3 HA FIN
            go_wp2
            go_ret
            exact ⟨rfl, HB7.out⟩
        · rcases hcase with ⟨rfl, hi0⟩ | ⟨rfl, rfl⟩
          · have hd' : now < d1 := by omega
            clear hd
            go_wp2_with fail
            refine (HA.out _).mono ?_
            rintro e w7 ⟨rfl, hb7⟩
            obtain ⟨k1, k2, k3, k4⟩ := FIN.out _ w7 hb7
            have c0' := (k2 b4 0 l4).trans c0
            have c1' := (k2 b4 1 l4).trans c1
            have c2' := (k2 b4 2 l4).trans c2
            have HB7 := Lib.hid k1
            clear hb7 k1 k2 k3 HA FIN
            go_wp2
            go_ret
            exact ⟨rfl, HB7.out⟩
          · clear hd
            go_wp2_with fail
            refine (HA.out _).mono ?_
            rintro e w7 ⟨rfl, hb7⟩
            obtain ⟨k1, k2, k3, k4⟩ := FIN.out _ w7 hb7
            have HB7 := Lib.hid k1
            clear hb7 k1 k2 k3 HA FIN
            go_wp2
            go_ret
            exact ⟨rfl, HB7.out⟩
end Go.Proofs.Ytllmdhkeapabjaa
