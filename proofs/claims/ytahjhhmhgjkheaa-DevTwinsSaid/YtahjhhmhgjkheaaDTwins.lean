/- arboretumlaw2.DevTwins: the walk. -/
import Derived.Test.YtahjhhmhgjkheaaTwin
namespace Go.Proofs.Ytahjhhmhgjkheaa
open Go.RowKit Go.Conc
attribute [local go_sem ↓] Go.wp_at_zero Go.wp_at_succ

set_option maxRecDepth 100000 in
theorem devTwins_out (n b : Int) (p : Option Addr) (l c : Nat) (w : World) (hl0 : (l : Int) ≤ 9223372036854775807) (h : n < 1 ∨ 20 < n ∨ 40 < l) : Calls Try.prog 7 #[.int .i64 n, .int .u8 b, .slice p l c] w fun e w' => e = .returned (.bool true) ∧ Below w.heap.size w w' := by
  by_cases h1 : n < 1
  · clear h
    go_enter Try.func7, Try.ntmps7
    go_wp2_with fail
    refine (alive_true _).mono ?_
    rintro e w3 ⟨rfl, hb3⟩
    have HB := Lib.hid hb3
    clear hb3
    go_wp2
    go_ret
    exact ⟨rfl, HB.out⟩
  by_cases h2 : 20 < n
  · clear h
    go_enter Try.func7, Try.ntmps7
    go_wp2_with fail
    refine (alive_true _).mono ?_
    rintro e w3 ⟨rfl, hb3⟩
    have HB := Lib.hid hb3
    clear hb3
    go_wp2
    go_ret
    exact ⟨rfl, HB.out⟩
  · have h4 : 40 < l := by omega
    clear h
    go_enter Try.func7, Try.ntmps7
    go_wp2_with fail
    refine (alive_true _).mono ?_
    rintro e w3 ⟨rfl, hb3⟩
    have HB := Lib.hid hb3
    clear hb3
    go_wp2
    go_ret
    exact ⟨rfl, HB.out⟩

set_option maxHeartbeats 1000000 in
set_option maxRecDepth 100000 in
theorem dv_write_out {db base : Nat} {m lf : Int} {sy nw : List ByteArray} {ws : List Wr} {F : Nat → Prop} {w : World} (k : Int) (s : ByteArray) (h : Dv db base m true false lf sy nw ws F w) (hk : k < 0 ∨ (nw.length : Int) ≤ k) :
    Calls Try.prog 12 #[.pointer (some ⟨db, 0, none⟩), .int .i64 k, .string s] w fun e w' => e = .returned (.int .i64 3) ∧ w' = w := by
  obtain ⟨v4, v5, cv, hI, hok, hb, rfl⟩ := h
  have HOFF := Lib.hid (dev_off db true w hI.c1)
  have HOP := Lib.hid (dev_op_plain db w hI.c2)
  obtain ⟨p5, d5, rfl⟩ := owns_slice hI.o5
  have hc5 := hI.c5
  have hnl : (nw.length : Int) ≤ 3000 := by have h1 := hok.len; have h2 := hok.few; omega
  clear hI hok
  rcases Int.lt_or_le k 0 with h1 | h1
  · clear hk
    go_enter Try.func12, Try.ntmps12
    go_wp2_with fail
    refine HOFF.out.mono ?_
    rintro e w1 ⟨rfl, rfl⟩
    go_wp2_with fail
    refine HOP.out.mono ?_
    rintro e w1 ⟨rfl, rfl⟩
    go_wp2
    go_ret
    exact ⟨rfl, rfl⟩
  · have h2 : (nw.length : Int) ≤ k := by omega
    clear hk
    go_enter Try.func12, Try.ntmps12
    go_wp2_with fail
    refine HOFF.out.mono ?_
    rintro e w1 ⟨rfl, rfl⟩
    go_wp2_with fail
    refine HOP.out.mono ?_
    rintro e w1 ⟨rfl, rfl⟩
    go_wp2
    go_ret
    exact ⟨rfl, rfl⟩

/-- What Write leaves, wherever. -/
def DvPut (db base : Nat) (m : Int) (n : Nat) (i : Nat) (F : Nat → Prop) (w : World) (e : Ending) (w' : World) : Prop :=
  ∃ v, e = .returned (.int .i64 v) ∧ ∃ nw ws F', nw.length = n ∧ ws.length ≤ i + 1 ∧ Dv db base m true false 0 (List.replicate n page0) nw ws F' w' ∧ Step F F' w w'

theorem dv_write_any {db base : Nat} {m : Int} {n i : Nat} {nw : List ByteArray} {ws : List Wr} {F : Nat → Prop} {w : World} (k : Int) (s : ByteArray) (h : Dv db base m true false 0 (List.replicate n page0) nw ws F w) (hn : nw.length = n) (hs : s.size = 256) (hw : ws.length ≤ i) (hi : i < 100) :
    Calls Try.prog 12 #[.pointer (some ⟨db, 0, none⟩), .int .i64 k, .string s] w (DvPut db base m n i F w) := by
  by_cases hk : k < 0 ∨ (nw.length : Int) ≤ k
  · refine (dv_write_out k s h hk).mono ?_
    rintro e w' ⟨rfl, rfl⟩
    exact ⟨_, rfl, nw, ws, F, hn, by omega, h, Step.refl _ _⟩
  · obtain ⟨j, rfl⟩ := Int.eq_ofNat_of_zero_le (show 0 ≤ k by omega)
    refine (dv_write j s h (by omega) hs (by omega) (by omega)).mono ?_
    rintro e w' ⟨rfl, F', hD, hS⟩
    exact ⟨_, rfl, _, _, F', by rw [List.length_set]; exact hn, by simp; omega, hD, hS⟩

/-- Between two rounds of writes. -/
def TwRel (db n : Nat) (w : World) (i : Nat) (wr : World) : Prop :=
  ∃ nw ws F, nw.length = n ∧ ws.length ≤ i ∧ Dv db db 30 true false 0 (List.replicate n page0) nw ws F wr ∧ Below db w wr

set_option maxHeartbeats 4000000 in
set_option maxRecDepth 100000 in
theorem devTwins_in (n b : Nat) (p : Option Addr) (l c : Nat) (zs : List Int) (w : World) (hz : RdI w w.heap.size p l zs) (h1 : 1 ≤ n) (h2 : n ≤ 20) (h3 : b < 256) (h4 : l ≤ 40) : Calls Try.prog 7 #[.int .i64 n, .int .u8 b, .slice p l c] w fun e w' => e = .returned (.bool true) ∧ Below w.heap.size w w' := by
  have HN := Lib.hid (dv_new 30 w (by omega) (by omega))
  have HZZ := Lib.hid hz
  clear hz
  go_enter Try.func7, Try.ntmps7
  go_wp2_with fail
  refine HN.out.mono ?_
  rintro e w1 ⟨rfl, hD, hb1⟩
  have HB1 := Lib.hid hb1
  have HZ := Lib.hid hD.bsz
  have HG := Lib.hid (dv_grow n hD (by simp) (by omega) (by omega))
  clear hb1 hD HN
  go_wp2_with fail
  refine HG.out.mono ?_
  rintro e w2 ⟨rfl, F2, hD2, hS2⟩
  have HST : Hid (TwRel w.heap.size n w 0 w2) := ⟨_, _, _, by simp, by simp, hD2, HB1.out.trans (hS2.1.below HZ.out (fun i hi => by have : i = w.heap.size := hi; omega))⟩
  clear hD2 hS2 HG HB1 HZ
  go_wp2
  go_loopw [9] (fun iv wr => ∃ i : Nat, i ≤ l ∧ iv = .int .i64 i ∧ TwRel w.heap.size n w i wr) (fun iv _ => l - (intOf iv).toNat)
  case atStart => exact ⟨0, by omega, rfl, HST.out⟩
  case round =>
    clear HST
    obtain ⟨i, hi, rfl, nw, ws, F, hnw, hws, hD, hB⟩ := hrel
    have HNW := Lib.hid hnw
    have HWS := Lib.hid hws
    have HD := Lib.hid hD
    have HB := Lib.hid hB
    have hwr := hB.size
    clear hnw hws hD hB
    by_cases hlt : i < l
    · have HFI := Lib.hid (fun w => filled_str b i h3 w)
      have HFG := Lib.hid HD.out.ge
      obtain ⟨kb, ko, rfl, hkb, hkc⟩ := HZZ.out.2 (by omega)
      have hkw : wr.cell? ⟨kb, ko + i, none⟩ = some (.int .i64 (HL.el zs i)) := (HB.out.cell (p := ⟨kb, ko + i, none⟩) hkb).trans (hkc i hlt)
      clear hkc
      generalize HL.el zs i = x at *
      have hi1 : (0 : Int) ≤ (i : Int) := by omega
      have hi2 : (i : Int) < (l : Int) := by omega
      have hkb2 : ¬ F kb := fun h => by have := HFG.out kb h; omega
      go_wp2_with fail
      go_region_held3 (fun w' => w'.cell? ⟨kb, ko + i, none⟩ = some (.int .i64 x))
        (first | go_keep | exact bkeep hb5 (by assumption) | exact (hS6.1.cell (p := ⟨kb, ko + i, none⟩) (cell_lt (by assumption)) hkb2).trans (by assumption))
        (first
          | (go_at_call 13; refine (HFI.out _).mono ?_; rintro e w5 ⟨rfl, hb5⟩; have hF5 : Fr (fun _ => False) wr w5 := Fr.trans ((Fr.refl (fun _ => False) wr).drew) (Fr.of_all (S := fun _ => False) hb5) (fun _ h _ => h); have hD5 := HD.out.keep hF5 (fun _ _ h => h); have HW := dv_write_any (i := i) x (fill b (i % 256)) hD5 HNW.out (fill_size _ _) HWS.out (by omega))
          | (go_at_call 12; refine HW.mono ?_; rintro e w6 ⟨v6, rfl, nw6, ws6, F6, hn6, hw6, hD6, hS6⟩))
      have HN6 : Hid (TwRel w.heap.size n w (i + 1) w6) := ⟨nw6, ws6, F6, hn6, hw6, hD6, HB.out.trans ((hF5.below (B := w.heap.size) hwr (fun _ h => h.elim)).trans (hS6.1.below (Nat.le_trans hwr hF5.size) HFG.out))⟩
      clear hD6 hS6 hn6 hw6 HW hD5 hF5 hb5
      go_wp2
      go_roundw
      case rel => exact ⟨i + 1, by omega, by go_num, HN6.out⟩
      case measure => simp [intOf]; omega
    · obtain rfl : i = l := by omega
      have HT := Lib.hid (dv_twin HD.out)
      have HL0 := Lib.hid (dv_unsynced HD.out)
      have HFG := Lib.hid HD.out.ge
      clear HD
      go_wp2_with fail
      refine HT.out.mono ?_
      rintro e w3 ⟨ob, F3, G, rfl, hd3, hs3, ht3, hap⟩
      have HTL := Lib.hid (dv_len ht3)
      have HTU := Lib.hid (dv_unsynced ht3)
      have HDU := Lib.hid (dv_unsynced hd3)
      rw [HNW.out] at HTL
      have HD3 := Lib.hid hd3
      have HT3 := Lib.hid ht3
      have HAP := Lib.hid hap
      have HB3 := Lib.hid (HB.out.trans (hs3.1.below hwr HFG.out))
      have HGE := Lib.hid (fun k (hk : G k) => Nat.le_trans hwr (ht3.ge k hk))
      clear hd3 hs3 ht3 hap HT HL0 HB
      go_wp2_with fail
      refine HTL.out.mono ?_
      rintro e w9 ⟨rfl, rfl⟩
      go_wp2_with fail
      refine HTU.out.mono ?_
      rintro e w9 ⟨rfl, rfl⟩
      go_wp2_with fail
      refine HDU.out.mono ?_
      rintro e w9 ⟨rfl, rfl⟩
      clear HTL HTU HDU
      have hz9 : w.heap.size ≤ w9.heap.size := HB3.out.size
      have hnl : n ≤ nw.length := by rw [HNW.out]; exact Nat.le_refl _
      go_wp2
      go_loopw [11, 12] (fun v kv wr2 => ∃ k : Nat, k ≤ n ∧ kv = .int .i64 k ∧ Below w9.heap.size w9 wr2 ∧ wr2.ownsRow w9.heap.size 9 1 v k (rowOf scells (nw.take k))) (fun _ kv _ => n - (intOf kv).toNat)
      case atStart => exact ⟨0, by omega, rfl, Below.refl _ _, World.ownsRow_nil _ _ _ _⟩
      case round =>
        obtain ⟨k, hk, rfl, hb2, ho2⟩ := hrel
        obtain ⟨q, cp, rfl⟩ := owns_slice ho2
        have HB2 := Lib.hid hb2
        have HO2 := Lib.hid ho2
        have hz2' := hb2.size
        clear hb2 ho2
        by_cases hkn : k < n
        · have HR1 := Lib.hid (dv_read k (HD3.out.keep (Fr.of_all (S := fun _ => False) HB2.out) (fun _ _ h => h)) (by omega))
          have HR2 := Lib.hid (dv_read k (HT3.out.keep (Fr.of_all (S := fun _ => False) HB2.out) (fun _ _ h => h)) (by omega))
          have HTK : Hid (nw.take (k + 1) = nw.take k ++ [nw.getD k default]) := Lib.hid (by
            rw [List.take_add_one, List.getD_eq_getElem?_getD, List.getElem?_eq_getElem (by omega)]
            rfl)
          generalize nw.getD k default = x at *
          go_wp2_with fail
          refine HR1.out.mono ?_
          rintro e w10 ⟨rfl, rfl⟩
          go_wp2_with fail
          refine HR2.out.mono ?_
          rintro e w10 ⟨rfl, rfl⟩
          clear HR1 HR2
          obtain ⟨i0, hi0, hz0, hz1, hz2⟩ := info_parts info_string
          go_wp2_with (at_builtin; refine wpList_append_own _ rfl _ _ 34 rfl w9.heap.size 9 i0 _ 1 16 Try.underlying34 hi0 hz0 hz1 hz2 rfl (by omega) (.slice q k cp) k (rowOf scells (nw.take k)) rfl ?own ⟨w10.heap.size, 0, none⟩ 1 1 [.string x] rfl rfl ?cells ?one ?len ?bytes ?base ?_; (case own => exact HO2.out.alloc _); (case cells => exact new_cells w10 _ _); (case one => simp [Value.oneCell']); (case len => unfold maxLen; omega); (case bytes => omega); (case base => simp; omega); intro v2 w2 hown hgr _; have HOW := Lib.hid hown; have HGR := Lib.hid hgr; clear hown hgr)
          have HBE : Hid (Below w9.heap.size w9 w2) := Lib.hid ((HB2.out.alloc hz2' _).grown HGR.out (by simp; omega) (fun g hg => (HO2.out.lt g hg).1))
          have HOE : Hid (w2.ownsRow w9.heap.size 9 1 v2 (k + 1) (rowOf scells (nw.take (k + 1)))) := Lib.hid (by rw [HTK.out, rowOf_append, rowOf_one]; exact HOW.out)
          clear HOW HGR
          go_wp2
          go_roundw
          case rel => exact ⟨k + 1, by omega, by go_num, HBE.out, HOE.out⟩
          case measure => simp [intOf]; omega
        · obtain rfl : k = n := by omega
          obtain ⟨g, cq, hvq, hgb, hgl, _⟩ := owns_len HO2.out (by omega)
          injection hvq with hvq1 _ hvq2
          subst hvq1 hvq2
          have HFI : Hid (∀ w, Calls Try.prog 13 #[.int .u8 (((b : Int) + 9) % 256), .int .i64 7] w fun e w' => e = .returned (.string (fill ((b + 9) % 256) 7)) ∧ Below w.heap.size w w') := Lib.hid (fun w => by
            have e := filled_str ((b + 9) % 256) 7 (Nat.mod_lt _ (by omega)) w
            rw [show (((b + 9) % 256 : Nat) : Int) = ((b : Int) + 9) % 256 by omega] at e
            exact e)
          have HROW : Hid (∀ j, j < k → wr.cell? ⟨g, j, none⟩ = some (.string (nw.getD j default))) := Lib.hid (fun j hj => by
            have r0 := rowOf_at scells scells_length (nw.take k) j 0 (by rw [List.length_take]; omega) (by omega)
            rw [Nat.mul_one, Nat.add_zero] at r0
            have e := HO2.out.cells (g := g) rfl j (.string (nw.getD j default)) (by
              rw [r0]
              have : (nw.take k).getD j default = nw.getD j default := by
                rw [List.getD_eq_getElem?_getD, List.getD_eq_getElem?_getD, List.getElem?_take, if_pos hj]
              rw [this]
              rfl)
            rw [add_at0] at e
            exact e)
          clear HO2
          go_wp2_with fail
          refine (HFI.out _).mono ?_
          rintro e w11 ⟨rfl, hb11⟩
          have hF11 : Fr (fun q => w9.heap.size ≤ q) w9 w11 := Fr.trans (Fr.of_all HB2.out) (Fr.of_all (S := fun _ => False) hb11) (fun _ h _ => h.elim)
          have ht11 := HT3.out.keep hF11 (fun q hq h => by have := HT3.out.lt q hq; omega)
          have HD11 := Lib.hid (HD3.out.keep hF11 (fun q hq h => by have := HD3.out.lt q hq; omega))
          have HGL := Lib.hid HT3.out.lt
          have HW : Hid (Calls Try.prog 12 #[.pointer (some ⟨ob, 0, none⟩), .int .i64 0, .string (fill ((b + 9) % 256) 7)] w11 (DvWrote ob _ 30 false false 0 _ nw ws G 0 (fill ((b + 9) % 256) 7) w11)) := Lib.hid (dv_write 0 _ ht11 (by omega) (fill_size _ _) (by have := HWS.out; omega) (by omega))
          have HB11 := Lib.hid (HB3.out.trans ((HB2.out.mono hz9).trans (hb11.mono (Nat.le_trans hz9 hz2'))))
          have HRW11 : Hid (∀ j, j < k → w11.cell? ⟨g, j, none⟩ = some (.string (nw.getD j default))) := Lib.hid (fun j hj => (hb11.cell (p := ⟨g, j, none⟩) hgl).trans (HROW.out j hj))
          clear hb11 hF11 ht11 HFI HROW HB2
          go_wp2_with fail
          refine HW.out.mono ?_
          rintro e w12 ⟨he, G1, ht12, hs12⟩
          obtain rfl : e = .returned (.int .i64 0) := he
          have HG2 : Hid (Calls Try.prog 11 #[.pointer (some ⟨ob, 0, none⟩), .int .i64 ((k : Int) + 1)] w12 _) := Lib.hid (dv_grow (k + 1) ht12 (by rw [List.length_set, HNW.out]; omega) (by omega) (by omega))
          have HS12 := Lib.hid hs12
          clear ht12 hs12 HW
          go_wp2_with fail
          refine HG2.out.mono ?_
          rintro e w13 ⟨rfl, G2, ht13, hs13⟩
          have HC := Lib.hid (dv_crash none 0 0 [] ht13 ⟨rfl, fun h => by omega⟩ (fun a ha => by cases ha) (by omega))
          have HS13 := Lib.hid (HS12.out.trans hs13)
          clear ht13 hs13 HG2 HS12
          go_wp2_with fail
          refine HC.out.mono ?_
          rintro e w14 ⟨rfl, G3, ht14, hs14⟩
          have HST := Lib.hid (HS13.out.trans hs14)
          have HD14 := Lib.hid (HD11.out.keep HST.out.1 (fun q hq h => HAP.out q h hq))
          have HT14 := Lib.hid ht14
          have HRW14 : Hid (∀ j, j < k → w14.cell? ⟨g, j, none⟩ = some (.string (nw.getD j default))) := Lib.hid (fun j hj => (HST.out.1.cell (p := ⟨g, j, none⟩) (by have h9 := HRW11.out j hj; exact cell_lt h9) (fun h => by have := HGL.out g h; omega)).trans (HRW11.out j hj))
          have HB14 := Lib.hid (HB11.out.trans (HST.out.1.below HB11.out.size HGE.out))
          clear ht14 hs14 HC HS13 HST HD11 HRW11 HB11
          go_wp2
          go_loop [17] (fun jv => ∃ j : Nat, j ≤ k ∧ jv = .int .i64 j) (fun jv => k - (intOf jv).toNat)
          case atStart => exact ⟨0, by omega, rfl⟩
          case round =>
            obtain ⟨j, hj, rfl⟩ := hrel
            by_cases hjk : j < k
            · have HR := Lib.hid (dv_read j HD14.out (by omega))
              have hcl := HRW14.out j hjk
              generalize nw.getD j default = x at *
              go_wp2_with fail
              refine HR.out.mono ?_
              rintro e w15 ⟨rfl, rfl⟩
              go_wp2
              go_round
              case rel => exact ⟨j + 1, by omega, by go_num⟩
              case measure => simp [intOf]; omega
            · obtain rfl : j = k := by omega
              go_wp2_with fail
              refine (alive_true _).mono ?_
              rintro e w16 ⟨rfl, hb16⟩
              have hd16 := HD14.out.keep (Fr.of_all (S := fun _ => False) hb16) (fun _ _ h => h)
              have ht16 := HT14.out.keep (Fr.of_all (S := fun _ => False) hb16) (fun _ _ h => h)
              have HO1 := Lib.hid (dv_on hd16)
              have HO2 := Lib.hid (dv_on ht16)
              have HL := Lib.hid (dv_len hd16)
              rw [HNW.out] at HL
              have HBE := Lib.hid (HB14.out.trans (hb16.mono HB14.out.size))
              clear hb16 hd16 ht16
              go_wp2_with fail
              refine HO1.out.mono ?_
              rintro e w17 ⟨rfl, rfl⟩
              go_wp2_with fail
              refine HO2.out.mono ?_
              rintro e w17 ⟨rfl, rfl⟩
              go_wp2_with fail
              refine HL.out.mono ?_
              rintro e w17 ⟨rfl, rfl⟩
              go_wp2
              go_ret
              exact ⟨rfl, HBE.out⟩

theorem devTwins_walk (n b : Int) (p : Option Addr) (l c : Nat) (zs : List Int) (w : World) (hz : RdI w w.heap.size p l zs) (hl : (l : Int) ≤ 9223372036854775807) (hb : 0 ≤ b ∧ b < 256) : Calls Try.prog 7 #[.int .i64 n, .int .u8 b, .slice p l c] w fun e w' => e = .returned (.bool true) ∧ Below w.heap.size w w' := by
  by_cases h : n < 1 ∨ 20 < n ∨ 40 < l
  · exact devTwins_out n b p l c w hl h
  · obtain ⟨k, rfl⟩ := Int.eq_ofNat_of_zero_le (show 0 ≤ n by omega)
    obtain ⟨y, rfl⟩ := Int.eq_ofNat_of_zero_le hb.1
    exact devTwins_in k y p l c zs w hz (by omega) (by omega) (by omega) (by omega)
end Go.Proofs.Ytahjhhmhgjkheaa
