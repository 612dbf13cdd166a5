/- arboretumlaw27.NetKeeps: the walk. -/
import Derived.Test.YthdpajgnigilhaaNetZ
import Derived.Deep.QuietTactic
import Derived.BigQuiet
import Derived.Deep.RegionWith
import Derived.DataShut
namespace Go.Proofs.Ythdpajgnigilhaa
open Go.RowKit Go.Conc Go.Maps

def bs (i : Nat) : ByteArray := ⟨#[UInt8.ofNat i]⟩
def ki (zs : List Int) (i : Nat) : Nd := ⟨1, 2, bs i, HL.el zs i, (i : Int) + 1⟩
def sk (zs : List Int) (n : Nat) : List Nd := (List.range n).map (ki zs)
theorem sk_succ (zs : List Int) (n : Nat) : sk zs (n + 1) = sk zs n ++ [ki zs n] := by simp [sk, List.range_succ]
theorem sk_length (zs : List Int) (n : Nat) : (sk zs n).length = n := by simp [sk]

section
variable {base nb : Nat} {S : List Nd} {seq : Int} {cu : Value} {m : Option Nat} {ob : Obj} {F : Nat → Prop} {w : World}

theorem NetI.cu_set {v : Value} {l : List Nd} {ch : Value} (h : NetI nb base v l seq cu ch w) (cu' : Value) :
    NetI nb base v l seq cu' ch (w.setCell ⟨nb, 2, none⟩ cu') ∧ Fr (fun k => k = nb) w (w.setCell ⟨nb, 2, none⟩ cu') := by
  obtain ⟨⟨a1, a2, a3, a4, a5, a6⟩, b, c, d, e, f, g, i⟩ := h
  have hF : Fr (fun k => k = nb) w (w.setCell ⟨nb, 2, none⟩ cu') := (Fr.refl (fun k => k = nb) w).setCell (p := ⟨nb, 2, none⟩) (fun _ => rfl) _
  refine ⟨⟨⟨?_, by rw [frozen_set]; exact a2, hF.owns a3 (fun g hg e => a4 (by rw [hg, e])), a4, a5, Nat.le_trans a6 hF.size⟩, ?_, by rw [frozen_set]; exact c, cell_set_same _ _ _ _ d, by rw [frozen_set]; exact e, ?_, by rw [frozen_set]; exact g, i⟩, hF⟩
  · rw [World.cell?_setCell_other _ _ _ _ (by simp)]; exact a1
  · rw [World.cell?_setCell_other _ _ _ _ (by simp)]; exact b
  · rw [World.cell?_setCell_other _ _ _ _ (by simp)]; exact f

set_option maxRecDepth 100000 in
theorem nt_cut_on (k12 : Lit) (hk : keyOf Try.prog 70 (.agg #[.int .i64 1, .int .i64 2]) = some k12) (h : Nt base nb S seq (.map none) none ob F w) :
    Calls Try.prog 14 #[.pointer (some ⟨nb, 0, none⟩), .int .i64 2, .int .i64 1, .bool true] w fun e w' => e = .returned (.tuple #[]) ∧ ∃ ob', Nt base nb S seq (.map (some w.heap.size)) (some w.heap.size) ob' F w' ∧ CutD w.heap.size ob' (dB k12) ∧ Fr F w w' := by
  obtain ⟨v, ch, l, hI, hp, hch, hcw, hmF, hge, hb, rfl⟩ := h
  refine (cut_on nb w k12 hk hI.c2 hI.f2).mono ?_
  rintro e w' ⟨rfl, n, hn, hown, hF⟩
  obtain ⟨ob', hD, hcw'⟩ := cutD_of hown hn
  have hlt : nb < w.heap.size := cell_lt hI.c1
  have hs := hI.cu_set (.map (some w.heap.size))
  have hnF : ¬ sendS nb v ch w.heap.size := fun h => by have := (hge _ h).2; omega
  have hchk : ∀ c, ch = .chan (some c) → ¬ netF nb v c := fun c hc => by
    rcases hch with h | ⟨c', s, r, h1, h2⟩
    · rw [h] at hc; cases hc
    · rw [h1] at hc
      have e : c' = c := by injection hc with hc; injection hc
      rw [← e]
      exact hI.not_chan h2
  have hFF : Fr (sendS nb v ch) w w' := Fr.trans (hs.2.mono (fun _ _ h => .inl (.inl h))) hF (fun i hi hlt => by have : i = w.heap.size := hi; omega)
  have hch' : ChOk ch w' := (hch.keep hs.2 (fun c hc e => hchk c hc (.inl e))).keep hF (fun c hc e => hnF (.inr (by have : c = w.heap.size := e; rw [← this]; exact hc)))
  refine ⟨rfl, ob', ⟨v, ch, l, hs.1.keep hF (fun k hk e => hnF (.inl (by have : k = w.heap.size := e; rw [← this]; exact hk))), hp, hch', hcw', fun b e => by cases e; exact hnF, fun k hk => ⟨(hge k hk).1, Nat.lt_of_lt_of_le (hge k hk).2 hFF.size⟩, Nat.le_trans hb hFF.size, rfl⟩, hD, hFF⟩

set_option maxRecDepth 100000 in
theorem nt_cut_off (mb : Nat) (k12 : Lit) (D : DU) (hk : keyOf Try.prog 70 (.agg #[.int .i64 1, .int .i64 2]) = some k12) (h : Nt base nb S seq (.map (some mb)) (some mb) ob F w) (hD : CutD mb ob D) :
    Calls Try.prog 14 #[.pointer (some ⟨nb, 0, none⟩), .int .i64 1, .int .i64 2, .bool false] w fun e w' => e = .returned (.tuple #[]) ∧ ∃ ob', Nt base nb S seq (.map (some mb)) (some mb) ob' F w' ∧ CutD mb ob' (D.del k12) ∧ Fr (fun k => k = mb) w w' := by
  obtain ⟨v, ch, l, hI, hp, hch, hcw, hmF, hge, hb, rfl⟩ := h
  obtain ⟨n, hn, ho⟩ := hD w hcw
  have hmb := hmF mb rfl
  refine (cut_off nb mb n w k12 D hk hI.c2 ho (fun e => hmb (.inl (.inl e.symm)))).mono ?_
  rintro e w' ⟨rfl, hown, hF⟩
  obtain ⟨ob', hD', hcw'⟩ := cutD_of hown hn
  exact ⟨rfl, ob', ⟨v, ch, l, hI.keep hF (fun k hk e => hmb (.inl (by have : k = mb := e; rw [← this]; exact hk))), hp, hch.keep hF (fun c hc e => hmb (.inr (by have : c = mb := e; rw [← this]; exact hc))), hcw', fun b e => by cases e; exact hmb, fun k hk => ⟨(hge k hk).1, Nat.lt_of_lt_of_le (hge k hk).2 hF.size⟩, Nat.le_trans hb hF.size, rfl⟩, hD', hF⟩
end

section
variable {base nb : Nat} {S : List Nd} {seq : Int} {cu : Value} {m : Option Nat} {ob : Obj} {F : Nat → Prop} {w : World}
/-- Send of a packet that is lost, a byte laid ahead of it. -/
theorem nt_send_lost (at' : Int) (da : ByteArray) (o : Obj) (h : Nt base nb S seq cu m ob F w) (hlk : ∀ W, CutW m ob W → look cu 1 2 true W) (hda : da.size ≤ 1000000) (hs0 : 0 ≤ seq) (hs : seq ≤ 500000) :
    Calls Try.prog 10 #[.pointer (some ⟨nb, 0, none⟩), .int .i64 at', .slice (some ⟨w.heap.size + 1, 0, none⟩) 1 1] ((w.alloc o).alloc (.cells #[.int .i64 1, .int .i64 2, .string da] 34)).drew fun e w' => e = .returned (.int .i64 0) ∧
      ∃ F', Nt base nb S seq cu m ob F' w' ∧ Step F F' w w' := by
  have hF : Fr (fun _ => False) w (w.alloc o).drew := ((Fr.refl _ w).alloc _).drew
  have hs := nt_send1_no at' 1 2 da true (h.keep hF (fun _ _ h => h) (fun _ _ h => h)) hlk hda (.inl rfl) hs0 hs
  have e : (w.alloc o).drew.heap.size = w.heap.size + 1 := by simp
  rw [e] at hs
  refine hs.mono ?_
  rintro e w' ⟨rfl, F', hN, hst⟩
  exact ⟨rfl, F', hN, Fr.trans (hF.mono (fun _ _ h => h.elim)) hst.1 (fun i hi _ => hi), fun k hk => (hst.2 k hk).imp id (fun h => Nat.le_trans hF.size h)⟩

/-- Send of a packet that comes into the heap, a byte laid ahead of it. -/
theorem nt_send_kept (at' : Int) (da : ByteArray) (o : Obj) (h : Nt base nb S seq cu m ob F w) (hlk : ∀ W, CutW m ob W → look cu 1 2 false W) (hda : da.size ≤ 1000000) (hroom : S.length < 600) (hs0 : 0 ≤ seq) (hs : seq ≤ 500000) :
    Calls Try.prog 10 #[.pointer (some ⟨nb, 0, none⟩), .int .i64 at', .slice (some ⟨w.heap.size + 1, 0, none⟩) 1 1] ((w.alloc o).alloc (.cells #[.int .i64 1, .int .i64 2, .string da] 34)).drew fun e w' => e = .returned (.int .i64 1) ∧
      ∃ F', Nt base nb (S ++ [⟨1, 2, da, at', seq + 1⟩]) (seq + 1) cu m ob F' w' ∧ Step F F' w w' := by
  have hF : Fr (fun _ => False) w (w.alloc o).drew := ((Fr.refl _ w).alloc _).drew
  have hs := nt_send1 at' 1 2 da (h.keep hF (fun _ _ h => h) (fun _ _ h => h)) hlk hda hroom hs0 hs
  have e : (w.alloc o).drew.heap.size = w.heap.size + 1 := by simp
  rw [e] at hs
  refine hs.mono ?_
  rintro e w' ⟨rfl, F', hN, hst⟩
  exact ⟨rfl, F', hN, Fr.trans (hF.mono (fun _ _ h => h.elim)) hst.1 (fun i hi _ => hi), fun k hk => (hst.2 k hk).imp id (fun h => Nat.le_trans hF.size h)⟩
end

theorem look12 {mb : Nat} {ob : Obj} {D : DU} {k12 : Lit} (hD : CutD mb ob D) (hk : keyOf Try.prog 70 (.agg #[.int .i64 1, .int .i64 2]) = some k12) (b : Bool) (hb : Maps.has D k12 = b) : ∀ W, CutW (some mb) ob W → look (.map (some mb)) 1 2 b W := fun W hW => by
  have := cutD_look hD (x := 1) (y := 2) (by rw [show min (1 : Int) 2 = 1 from rfl, show max (1 : Int) 2 = 2 from rfl]; exact hk) W hW
  rw [hb] at this
  exact this
theorem look13 {mb : Nat} {ob : Obj} {D : DU} {k13 : Lit} (hD : CutD mb ob D) (hk : keyOf Try.prog 70 (.agg #[.int .i64 1, .int .i64 3]) = some k13) (b : Bool) (hb : Maps.has D k13 = b) : ∀ W, CutW (some mb) ob W → look (.map (some mb)) 1 3 b W := fun W hW => by
  have := cutD_look hD (x := 1) (y := 3) (by rw [show min (1 : Int) 3 = 1 from rfl, show max (1 : Int) 3 = 3 from rfl]; exact hk) W hW
  rw [hb] at this
  exact this

theorem bs_size (i : Nat) : (bs i).size = 1 := rfl
theorem conv_one (w W : World) (i : Nat) (hi : i < 256) (h : W.cell? ⟨w.heap.size, 0, none⟩ = some (.int .u8 (i : Int))) : (convert 32 9 (.slice (some ⟨w.heap.size, 0, none⟩) 1 1)).run Try.prog W = .ok (.string (bs i)) W := by
  have e := run_convert_bytes_back (P := Try.prog) W 32 9 5 ⟨w.heap.size, 0, none⟩ 1 [UInt8.ofNat i] Try.underlying32 Try.underlying5 Try.underlying9 (fun j hj => by
    have e9 : j = 0 := (by simpa using hj)
    subst e9
    have e8 : (UInt8.ofNat i).toNat = i := by simp; omega
    rw [add_at]
    simp only [Nat.add_zero, List.getElem_cons_zero, e8]
    exact h)
  exact e

/-- Between two sends: c, is it cut? -/
def KeepA (w : World) (zs : List Int) (c : Bool) (j : Nat) (k12 k13 : Lit) (wr : World) : Prop :=
  ∃ mb ob D F, Nt w.heap.size w.heap.size (if c then [] else sk zs j) (if c then 0 else (j : Int)) (.map (some mb)) (some mb) ob F wr ∧ CutD mb ob D ∧ Maps.has D k12 = c ∧ Maps.has D k13 = false ∧ w.heap.size ≤ mb ∧ Below w.heap.size w wr

/-- Between two packets that come. -/
structure KeepL (zs : List Int) (n k : Nat) (last : Int) (S : List Nd) : Prop where
  len : S.length + k = n
  mem : ∀ y ∈ S, ∃ i, i < n ∧ y = ki zs i
  nd : S.Nodup
  last : last = -1 ∨ ∃ l : Nat, l < n ∧ last = (l : Int) ∧ ∀ i, ki zs i ∈ S → HL.el zs l < HL.el zs i ∨ (HL.el zs l = HL.el zs i ∧ l < i)
theorem ki_inj {zs : List Int} {i j : Nat} (h : ki zs i = ki zs j) : i = j := by
  have : (i : Int) + 1 = (j : Int) + 1 := congrArg Nd.sq h
  omega
theorem KeepL.start (zs : List Int) (n : Nat) : KeepL zs n 0 (-1) (sk zs n) := by
  refine ⟨by rw [sk_length]; omega, ?_, ?_, .inl rfl⟩
  · intro y hy
    simp only [sk, List.mem_map, List.mem_range] at hy
    obtain ⟨i, hi, rfl⟩ := hy
    exact ⟨i, hi, rfl⟩
  · unfold sk List.Nodup
    rw [List.pairwise_map]
    exact List.Pairwise.imp (fun {a b} h e => h (ki_inj e)) List.nodup_range
theorem KeepL.step {zs : List Int} {n k : Nat} {last : Int} {S S' : List Nd} (h : KeepL zs n k last S) {i : Nat} (hi : i < n) (hmin : ∀ y ∈ S, wlt y (ki zs i) = false) (hp : (ki zs i :: S').Perm S) : KeepL zs n (k + 1) (i : Int) S' := by
  have hl := hp.length_eq
  rw [List.length_cons] at hl
  have hnd := List.nodup_cons.1 (hp.nodup_iff.2 h.nd)
  have hsub : ∀ y ∈ S', y ∈ S := fun y hy => hp.mem_iff.1 (List.mem_cons_of_mem _ hy)
  refine ⟨by have := h.len; omega, fun y hy => h.mem y (hsub y hy), hnd.2, .inr ⟨i, hi, rfl, fun j hj => ?_⟩⟩
  have hm := hmin _ (hsub _ hj)
  rw [wlt_false] at hm
  simp only [ki] at hm
  have hne : j ≠ i := fun e => hnd.1 (by rw [← e]; exact hj)
  omega
def KeepB (w : World) (zs : List Int) (n k : Nat) (last : Int) (wr : World) : Prop :=
  ∃ mb ob S F, KeepL zs n k last S ∧ Nt w.heap.size w.heap.size S (n : Int) (.map (some mb)) (some mb) ob F wr ∧ Below w.heap.size w wr

set_option maxHeartbeats 4000000 in
set_option maxRecDepth 100000 in
theorem netKeeps_big (p : Option Addr) (n cp : Nat) (c : Bool) (w : World) (hn : 60 < n) :
    Calls Try.prog 4 #[.slice p n cp, .bool c] w fun e w' => e = .returned (.bool true) ∧ Below w.heap.size w w' := by
  have h1 : (60 : Int) < n := by omega
  go_enter Try.func4, Try.ntmps4
  go_wp2_with fail
  refine (alive_true _).mono ?_
  rintro e w1 ⟨rfl, hb⟩
  go_wp2
  go_ret
  exact ⟨rfl, hb⟩

set_option maxHeartbeats 8000000 in
set_option maxRecDepth 100000 in
theorem netKeeps_in (p : Option Addr) (n cp : Nat) (c : Bool) (zs : List Int) (w : World) (hn : n ≤ 60) (hR : RdI w w.heap.size p n zs) (hat : Hid (∀ k, k < n → HL.el zs k ≤ 9223372036854775807)) :
    Calls Try.prog 4 #[.slice p n cp, .bool c] w fun e w' => e = .returned (.bool true) ∧ Below w.heap.size w w' := by
  obtain ⟨k12, k13, hk12, hk13, d1, d2, d3, d4⟩ := keysP
  have h1 : ¬ (60 : Int) < n := by omega
  have HR := Lib.hid hR
  have HK := Lib.hid (And.intro hk12 hk13)
  have HDD := Lib.hid (And.intro d1 (And.intro d2 (And.intro d3 d4)))
  clear hR hk12 hk13 d1 d2 d3 d4
  go_enter Try.func4, Try.ntmps4
  go_wp2_with fail
  refine (nt_new w).mono ?_
  rintro e w1 ⟨rfl, hN1, hbw1⟩
  have HC := Lib.hid (nt_cut_on k12 HK.out.1 hN1)
  have HB1 := Lib.hid hbw1
  have HNB := Lib.hid (fun w' F' (hF : Fr F' w1 w') (hS : F' = fun k => k = w.heap.size) => hN1.below (Nat.le_refl _) hbw1 (hS ▸ hF))
  clear hN1 hbw1
  go_wp2_with fail
  refine HC.out.mono ?_
  rintro e w2 ⟨rfl, ob2, hN2, hD2, hF2⟩
  have HB2 := Lib.hid (HNB.out _ _ hF2 rfl)
  have HN2 := Lib.hid hN2
  have HD2 := Lib.hid hD2
  clear hN2 hD2 hF2 HNB HC
  cases c with
  | true =>
    have HA : Hid (KeepA w zs true 0 k12 k13 w2) := Lib.hid ⟨_, ob2, _, _, HN2.out, HD2.out, HDD.out.1, HDD.out.2.1, HB1.out.size, HB2.out⟩
    clear HN2 HD2 HB2 HB1
    go_wp2
    go_loopw [6] (fun i wr => ∃ j : Nat, j ≤ n ∧ i = .int .i64 j ∧ Hid (KeepA w zs true j k12 k13 wr)) (fun i _ => n - (intOf i).toNat)
    case atStart => exact ⟨0, Nat.zero_le _, rfl, HA⟩
    case round =>
      obtain ⟨j, hj, rfl, hrel⟩ := hrel
      by_cases hjn : j < n
      · obtain ⟨mb, ob, D, F, hN, hD, hd1, hd2, hmb, hbw⟩ := hrel.out
        simp only [if_true] at hN
        obtain ⟨b, o, hp, hb, hc⟩ := HR.out.2 (by omega)
        subst hp
        have hcx := (hbw.cell (p := ⟨b, o + j, none⟩) hb).trans (hc j hjn)
        have hbl : b < wr.heap.size := by have := hbw.size; omega
        have hw8 : IntKind.u8.wrap (j : Int) = (j : Int) := by simp [IntKind.wrap, IntKind.bits, IntKind.signed]; omega
        have HN := Lib.hid hN
        have HBW := Lib.hid hbw
        clear hN hbw hc
        go_wp2
        have hcv := conv_one wr (wr.alloc (.cells #[.int .u8 (j : Int)] 5)).drew j (by omega) (by go_simp)
        have HS := Lib.hid (nt_send_lost (HL.el zs j) (bs j) (.cells #[.int .u8 (j : Int)] 5) HN.out (look12 hD HK.out.1 true hd1) (by rw [bs_size]; omega) (by omega) (by omega))
        have HNB := Lib.hid (fun w' (hF : Fr F wr w') => HN.out.below (Nat.le_refl _) HBW.out hF)
        have HRC := Lib.hid hcx
        have HGE := Lib.hid HN.out.ge
        go_region_with (go_at_call 10; refine HS.out.mono ?_; rintro e w9 ⟨rfl, F9, hN9, hst9⟩; have hS9 := (hst9.1.cell (p := ⟨b, o + j, none⟩) hbl (fun h => Nat.not_le.2 hb (HGE.out _ h))).trans HRC.out)
        all_goals
          have HR9 : Hid (KeepA w zs true (j + 1) k12 k13 w9) := Lib.hid ⟨mb, ob, D, F9, hN9, hD, hd1, hd2, hmb, HNB.out _ hst9.1⟩
          clear hN9 hst9 hD hd1 hd2 HS HNB hS9 hcv hcx
          go_wp2
          go_roundw
          case rel => exact ⟨j + 1, by omega, by go_num, HR9⟩
          case measure => simp [intOf]; omega
      · obtain rfl : j = n := by omega
        obtain ⟨mb, ob, D, F, hN, hD, hd1, hd2, hmb, hbw⟩ := hrel.out
        simp only [if_true] at hN
        have HN := Lib.hid hN
        have HBW := Lib.hid hbw
        have HAL := Lib.hid (alive_true wr)
        clear hN hbw
        go_wp2_with fail
        refine HAL.out.mono ?_
        rintro e w6 ⟨rfl, hb6⟩
        have HN6 := Lib.hid (HN.out.keep (Fr.of_all (S := fun _ => False) hb6) (fun _ _ h => h) (fun _ _ h => h))
        have HB6 := Lib.hid (HBW.out.trans (hb6.mono HBW.out.size))
        have HLE := Lib.hid (nt_len HN6.out)
        have HS := Lib.hid (nt_send1 1 1 3 ByteArray.empty HN6.out (look13 hD HK.out.2 false hd2) (by decide) (by simp) (by omega) (by omega))
        have HNB := Lib.hid (fun w' (hF : Fr F w6 w') => HN6.out.below (Nat.le_refl _) HB6.out hF)
        clear hb6 HAL HN HBW
        go_wp2_with fail
        refine HLE.out.mono ?_
        rintro e w7 ⟨rfl, rfl⟩
        go_wp2_with fail
        refine HS.out.mono ?_
        rintro e w8 ⟨rfl, F8, -, hst8⟩
        go_wp2
        go_ret
        exact ⟨rfl, HNB.out _ hst8.1⟩
  | false =>
    have HC := Lib.hid (nt_cut_off _ k12 _ HK.out.1 HN2.out HD2.out)
    go_wp2_with fail
    refine HC.out.mono ?_
    rintro e w3 ⟨rfl, ob3, hN3, hD3, hF3⟩
    have HA : Hid (KeepA w zs false 0 k12 k13 w3) := Lib.hid ⟨_, ob3, _, _, hN3, hD3, HDD.out.2.2.1, HDD.out.2.2.2, HB1.out.size, HB2.out.trans (hF3.below HB2.out.size (fun i hi => by have : i = w1.heap.size := hi; have := HB1.out.size; omega))⟩
    clear HN2 HD2 HB2 HB1 hN3 hD3 hF3 HC
    go_wp2
    go_loopw [6] (fun i wr => ∃ j : Nat, j ≤ n ∧ i = .int .i64 j ∧ Hid (KeepA w zs false j k12 k13 wr)) (fun i _ => n - (intOf i).toNat)
    case atStart => exact ⟨0, Nat.zero_le _, rfl, HA⟩
    case round =>
      obtain ⟨j, hj, rfl, hrel⟩ := hrel
      by_cases hjn : j < n
      · obtain ⟨mb, ob, D, F, hN, hD, hd1, hd2, hmb, hbw⟩ := hrel.out
        simp only [Bool.false_eq_true, if_false] at hN
        obtain ⟨b, o, hp, hb, hc⟩ := HR.out.2 (by omega)
        subst hp
        have hcx := (hbw.cell (p := ⟨b, o + j, none⟩) hb).trans (hc j hjn)
        have hbl : b < wr.heap.size := by have := hbw.size; omega
        have hw8 : IntKind.u8.wrap (j : Int) = (j : Int) := by simp [IntKind.wrap, IntKind.bits, IntKind.signed]; omega
        have HN := Lib.hid hN
        have HBW := Lib.hid hbw
        clear hN hbw hc
        go_wp2
        have hcv := conv_one wr (wr.alloc (.cells #[.int .u8 (j : Int)] 5)).drew j (by omega) (by go_simp)
        have HS := Lib.hid (nt_send_kept (HL.el zs j) (bs j) (.cells #[.int .u8 (j : Int)] 5) HN.out (look12 hD HK.out.1 false hd1) (by rw [bs_size]; omega) (by rw [sk_length]; omega) (by omega) (by omega))
        have HNB := Lib.hid (fun w' (hF : Fr F wr w') => HN.out.below (Nat.le_refl _) HBW.out hF)
        have HRC := Lib.hid hcx
        have HGE := Lib.hid HN.out.ge
        go_region_with (go_at_call 10; refine HS.out.mono ?_; rintro e w9 ⟨rfl, F9, hN9, hst9⟩; have hS9 := (hst9.1.cell (p := ⟨b, o + j, none⟩) hbl (fun h => Nat.not_le.2 hb (HGE.out _ h))).trans HRC.out)
        all_goals
          have HR9 : Hid (KeepA w zs false (j + 1) k12 k13 w9) := Lib.hid ⟨mb, ob, D, F9, by simp only [Bool.false_eq_true, if_false]; rw [sk_succ]; exact hN9, hD, hd1, hd2, hmb, HNB.out _ hst9.1⟩
          clear hN9 hst9 hD hd1 hd2 HS HNB hS9 hcv hcx
          go_wp2
          go_roundw
          case rel => exact ⟨j + 1, by omega, by go_num, HR9⟩
          case measure => simp [intOf]; omega
      · obtain rfl : j = n := by omega
        obtain ⟨mb, ob, D, F, hN, hD, hd1, hd2, hmb, hbw⟩ := hrel.out
        simp only [Bool.false_eq_true, if_false] at hN
        have HB0 : Hid (KeepB w zs j 0 (-1) wr) := Lib.hid ⟨mb, ob, _, F, KeepL.start zs j, hN, hbw⟩
        clear hN hbw hD hd1 hd2 hmb hrel HA HDD HK
        go_wp2
        go_loopw [7, 8] (fun la i wr => ∃ (k : Nat) (last : Int), k ≤ j ∧ i = .int .i64 k ∧ la = .int .i64 last ∧ Hid (KeepB w zs j k last wr)) (fun _ i _ => j - (intOf i).toNat)
        case atStart => exact ⟨0, -1, Nat.zero_le _, rfl, rfl, HB0⟩
        case round =>
          obtain ⟨k, last, hk, rfl, rfl, hrel⟩ := hrel
          by_cases hkj : k < j
          · obtain ⟨mb, ob, S, F, hL, hN, hbw⟩ := hrel.out
            obtain ⟨x, hx, hmin, -, hdue⟩ := nt_due 9223372036854775807 hN (by have := hL.len; omega)
            obtain ⟨i, hi, rfl⟩ := hL.mem x hx
            have HD := Lib.hid (hdue (hat.out i hi))
            have HST := Lib.hid (fun S' (hp : (ki zs i :: S').Perm S) => hL.step hi hmin hp)
            have HLA := Lib.hid (hL.last.imp id (fun ⟨l, h1, h2, h3⟩ => (⟨l, h1, h2, h3 i hx⟩ : ∃ l : Nat, l < j ∧ last = (l : Int) ∧ (HL.el zs l < HL.el zs i ∨ (HL.el zs l = HL.el zs i ∧ l < i)))))
            have HNB := Lib.hid (fun w' (hF : Fr F wr w') => hN.below (Nat.le_refl _) hbw hF)
            clear hL hN hbw hx hmin hdue hrel
            go_wp2_with fail
            refine HD.out.mono ?_
            rintro e w9 ⟨he, S', F9, hp, hN9, hst9⟩
            have he' : e = .returned (.tuple #[.agg #[.int .i64 1, .int .i64 2, .string (bs i)], .bool true]) := he
            subst he'
            have HB9 := Lib.hid (HNB.out _ hst9.1)
            have HL9 := Lib.hid (HST.out _ hp)
            have HRB : Hid (∀ q, KeepB w zs j (k + 1) (i : Int) ((w9.alloc (.cells #[.int .i64 1, .int .i64 2, .string (bs i)] 34)).drewN q)) := Lib.hid (fun q => ⟨mb, ob, S', F9, HL9.out, hN9.keep (((Fr.refl (fun _ => False) w9).alloc _).drewN q) (fun _ _ h => h) (fun _ _ h => h), (HB9.out.alloc HB9.out.size _).trans (Fr.below (S := fun _ => False) ((Fr.refl _ _).drewN q) (by simp; have := HB9.out.size; omega) (fun _ h => h.elim))⟩)
            have q2 : (w9.alloc (.cells #[.int .i64 1, .int .i64 2, .string (bs i)] 34)).cell? ⟨w9.heap.size, 2, none⟩ = some (.string (bs i)) := by go_simp
            have hbsz : (bs i).size = 1 := bs_size i
            have hb0 : ∀ h, ((bs i)[0]'h).toNat = i := fun h => by
              show (UInt8.ofNat i).toNat = i
              simp
              omega
            obtain ⟨b, o, hp, hb, hc⟩ := HR.out.2 (by omega)
            subst hp
            have hci := ((HB9.out.alloc HB9.out.size (.cells #[.int .i64 1, .int .i64 2, .string (bs i)] 34)).cell (p := ⟨b, o + i, none⟩) hb).trans (hc i hi)
            have t1 : decide (j ≤ i) = false := decide_eq_false (by omega)
            have HC := Lib.hid hc
            clear hN9 hst9 he hp HST HNB HD HL9 hc
            rcases HLA.out with hla | ⟨l, hl, hla, hlt | ⟨heq, hli⟩⟩
            · subst hla
              clear HLA
              have t2 : decide ((0 : Int) ≤ -1) = false := rfl
              go_wp2
              go_quiet (fail)
              go_wp2
              go_roundw
              case rel => exact ⟨k + 1, (i : Int), by omega, by go_num, rfl, Lib.hid (HRB.out _)⟩
              case measure => simp [intOf]; omega
            · subst hla
              clear HLA
              have hcl := ((HB9.out.alloc HB9.out.size (.cells #[.int .i64 1, .int .i64 2, .string (bs i)] 34)).cell (p := ⟨b, o + l, none⟩) hb).trans (HC.out l hl)
              have t2 : decide ((0 : Int) ≤ (l : Int)) = true := decide_eq_true (by omega)
              have t3 : decide (HL.el zs i < HL.el zs l) = false := decide_eq_false (by omega)
              have t4 : (HL.el zs l == HL.el zs i) = false := by rw [beq_eq_false_iff_ne]; omega
              have t5 : l < j := hl
              clear hlt
              go_wp2
              go_quiet (fail)
              go_wp2
              go_roundw
              case rel => exact ⟨k + 1, (i : Int), by omega, by go_num, rfl, Lib.hid (HRB.out _)⟩
              case measure => simp [intOf]; omega
            · subst hla
              clear HLA
              have hcl := ((HB9.out.alloc HB9.out.size (.cells #[.int .i64 1, .int .i64 2, .string (bs i)] 34)).cell (p := ⟨b, o + l, none⟩) hb).trans (HC.out l hl)
              have t2 : decide ((0 : Int) ≤ (l : Int)) = true := decide_eq_true (by omega)
              have t3 : decide (HL.el zs i < HL.el zs l) = false := decide_eq_false (by omega)
              have t4 : (HL.el zs l == HL.el zs i) = true := by rw [beq_iff_eq]; omega
              have t5 : l < j := hl
              have t6 : decide (i ≤ l) = false := decide_eq_false (by omega)
              clear heq
              go_wp2
              go_quiet (fail)
              go_wp2
              go_roundw
              case rel => exact ⟨k + 1, (i : Int), by omega, by go_num, rfl, Lib.hid (HRB.out _)⟩
              case measure => simp [intOf]; omega
          · obtain ⟨mb, ob, S, F, hL, hN, hbw⟩ := hrel.out
            obtain rfl : k = j := by omega
            have hS0 : S = [] := List.eq_nil_of_length_eq_zero (by have := hL.len; omega)
            subst hS0
            have HAL := Lib.hid (alive_true wr)
            have HN := Lib.hid hN
            have HBW := Lib.hid hbw
            clear hL hN hbw hrel
            go_wp2_with fail
            refine HAL.out.mono ?_
            rintro e w6 ⟨rfl, hb6⟩
            have HLE := Lib.hid (nt_len (HN.out.keep (Fr.of_all (S := fun _ => False) hb6) (fun _ _ h => h) (fun _ _ h => h)))
            have HB6 := Lib.hid (HBW.out.trans (hb6.mono HBW.out.size))
            clear hb6
            go_wp2_with fail
            refine HLE.out.mono ?_
            rintro e w7 ⟨rfl, rfl⟩
            go_wp2
            go_ret
            exact ⟨rfl, HB6.out⟩

/-- What the row's frame tells of the numbers' size. -/
theorem rd_le {w : World} {a : Option Addr} {len cap : Nat} {zs : List Int}
    (h : (a = none ∧ len = 0 ∧ cap = 0 ∧ zs = []) ∨ ∃ x, a = some x ∧ len ≤ cap ∧ cap ≤ maxLen ∧ zs.length = cap ∧ (∀ i, i < zs.length → w.cell? (x.add i) = some (.int .i64 (zs.getD i 0))) ∧ ∀ n ∈ zs, (Lit.int .i64 n).wf = true) : ∀ k, k < len → HL.el (zs.take len) k ≤ 9223372036854775807 := by
  intro k hk
  rcases h with ⟨rfl, rfl, rfl, rfl⟩ | ⟨x, rfl, hl, hm, hz, hc, hw⟩
  · omega
  · have hmem : HL.el (zs.take len) k ∈ zs := List.mem_of_mem_take (HL.el_mem _ _ (by rw [List.length_take]; omega))
    exact ((Lit.wf_int_iff .i64 _).1 (hw _ hmem)).2

theorem netKeeps_walk (p : Option Addr) (n cp : Nat) (c : Bool) (zs : List Int) (w : World) (hR : RdI w w.heap.size p n zs) (hat : ∀ k, k < n → HL.el zs k ≤ 9223372036854775807) :
    Calls Try.prog 4 #[.slice p n cp, .bool c] w fun e w' => e = .returned (.bool true) ∧ Below w.heap.size w w' := by
  by_cases h : 60 < n
  · exact netKeeps_big p n cp c w h
  · exact netKeeps_in p n cp c zs w (by omega) hR (Lib.hid hat)
end Go.Proofs.Ythdpajgnigilhaa
