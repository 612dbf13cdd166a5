/- arboretumlaw2.DevKeeps: the walk. -/
import Derived.Test.YtahjhhmhgjkheaaDKeepL
namespace Go.Proofs.Ytahjhhmhgjkheaa
open Go.RowKit Go.Conc
attribute [local go_sem ↓] Go.wp_at_zero Go.wp_at_succ

set_option maxRecDepth 100000 in
theorem devKeeps_out (p q r : Option Addr) (l m n c d e' : Nat) (w : World) (hl : (l : Int) ≤ 9223372036854775807) (hm : (m : Int) ≤ 9223372036854775807) (hn : (n : Int) ≤ 9223372036854775807) (h : 8 < l ∨ l = 0 ∨ 40 < m ∨ 60 < n) : Calls Try.prog 3 #[.slice p l c, .slice q m d, .slice r n e'] w fun e w' => e = .returned (.bool true) ∧ Below w.heap.size w w' := by
  by_cases h0 : 8 < l
  · clear h
    go_enter Try.func3, Try.ntmps3
    go_wp2_with fail
    refine (alive_true _).mono ?_
    rintro e w3 ⟨rfl, hb3⟩
    have HB := Lib.hid hb3
    clear hb3
    go_wp2
    go_ret
    exact ⟨rfl, HB.out⟩
  by_cases h1 : l = 0
  · clear h
    subst h1
    go_enter Try.func3, Try.ntmps3
    go_wp2_with fail
    refine (alive_true _).mono ?_
    rintro e w3 ⟨rfl, hb3⟩
    have HB := Lib.hid hb3
    clear hb3
    go_wp2
    go_ret
    exact ⟨rfl, HB.out⟩
  by_cases h2 : 40 < m
  · have h9 : ((l : Int) == 0) = false := by simp; omega
    clear h h1
    go_enter Try.func3, Try.ntmps3
    go_wp2_with fail
    refine (alive_true _).mono ?_
    rintro e w3 ⟨rfl, hb3⟩
    have HB := Lib.hid hb3
    clear hb3
    go_wp2
    go_ret
    exact ⟨rfl, HB.out⟩
  · have h3 : 60 < n := by omega
    have h9 : ((l : Int) == 0) = false := by simp; omega
    clear h h1
    go_enter Try.func3, Try.ntmps3
    go_wp2_with fail
    refine (alive_true _).mono ?_
    rintro e w3 ⟨rfl, hb3⟩
    have HB := Lib.hid hb3
    clear hb3
    go_wp2
    go_ret
    exact ⟨rfl, HB.out⟩

/-- Between two rounds: i pages are written, nothing is synced. -/
def KRelA (db m : Nat) (sf : Nat → Nat) (w : World) (i : Nat) (wr : World) : Prop :=
  ∃ nw ws F, nw.length = m ∧ (∀ j, j < i → nw.getD j default = fill (sf j) 0) ∧ ws.length = i ∧ Dv db db 8 true false 0 (List.replicate m page0) nw ws F wr ∧ Below db w wr

/-- Between two rounds: i more writes wait. -/
def KRelB (db m : Nat) (P : List ByteArray) (mo : Nat → Nat) (w : World) (i : Nat) (wr : World) : Prop :=
  ∃ nw F, nw.length = m ∧ Dv db db 8 true false 0 P nw (keepWs m mo i) F wr ∧ Below db w wr

theorem rd_two (w : World) (x y : Int) : RdI (w.alloc (.cells #[.int .i64 x, .int .i64 y] 3)) (w.alloc (.cells #[.int .i64 x, .int .i64 y] 3)).heap.size (some ⟨w.heap.size, 0, none⟩) 2 [x, y] :=
  ⟨rfl, fun _ => ⟨w.heap.size, 0, rfl, by simp, fun k hk => by
    have e := new_cells w [.int .i64 x, .int .i64 y] 3 k (.int .i64 (HL.el [x, y] k)) (by
      obtain rfl | rfl : k = 0 ∨ k = 1 := by omega
      · rfl
      · rfl)
    rw [add_at0] at e
    rw [Nat.zero_add]
    exact e⟩⟩

theorem keep_write {db base i j y : Nat} {m : Int} {sy nw : List ByteArray} {ws : List Wr} {F : Nat → Prop} {w : World} (h : Dv db base m true false 0 sy nw ws F w) (hk : j % i < nw.length) (hw : ws.length < 1000) :
    Calls Try.prog 12 #[.pointer (some ⟨db, 0, none⟩), .int .i64 ((j : Int) % (i : Int)), .string (fill y (0 % 256))] w (DvWrote db base m false false 0 sy nw ws F (j % i) (fill y (0 % 256)) w) := by
  have e := dv_write (j % i) (fill y (0 % 256)) h hk (fill_size _ _) hw (by omega)
  rw [Int.natCast_emod] at e
  exact e

set_option maxHeartbeats 4000000 in
set_option maxRecDepth 100000 in
theorem devKeeps_in (p q r : Option Addr) (l m n c d e' : Nat) (xs ys : List Nat) (ks : List Int) (w : World) (hx : RdU w w.heap.size p l xs) (hy : RdU w w.heap.size q m ys) (hz : RdI w w.heap.size r n ks) (h1 : 1 ≤ l) (h2 : l ≤ 8) (h3 : m ≤ 40) (h4 : n ≤ 60) :
    Calls Try.prog 3 #[.slice p l c, .slice q m d, .slice r n e'] w fun e w' => e = .returned (.bool true) ∧ Below w.heap.size w w' := by
  have HN := Lib.hid (dv_new 8 w (by omega) (by omega))
  obtain ⟨sb, so, rfl, hsb, hsc⟩ := hx.2.2 (by omega)
  have HXL := Lib.hid (fun k => hx.2.1 k)
  have HSC := Lib.hid hsc
  have HYY := Lib.hid hy
  have HZZ := Lib.hid hz
  have hl0 : ((l : Int) == 0) = false := by simp; omega
  clear hx hy hz hsc
  go_enter Try.func3, Try.ntmps3
  go_wp2_with fail
  refine HN.out.mono ?_
  rintro e w1 ⟨rfl, hD, hb1⟩
  have HB1 := Lib.hid hb1
  have HZ := Lib.hid hD.bsz
  have HG := Lib.hid (dv_grow l hD (by simp) (by omega) (by omega))
  clear hb1 hD HN
  go_wp2_with fail
  refine HG.out.mono ?_
  rintro e w2 ⟨rfl, F2, hD2, hS2⟩
  have HST : Hid (KRelA w.heap.size l (xs.getD · 0) w 0 w2) := ⟨_, _, _, by simp, fun j hj => by omega, rfl, hD2, HB1.out.trans (hS2.1.below HZ.out (fun i hi => by have : i = w.heap.size := hi; omega))⟩
  clear hD2 hS2 HG HB1 HZ
  go_wp2
  go_loopw [9] (fun iv wr => ∃ i : Nat, i ≤ l ∧ iv = .int .i64 i ∧ KRelA w.heap.size l (xs.getD · 0) w i wr) (fun iv _ => l - (intOf iv).toNat)
  case atStart => exact ⟨0, by omega, rfl, HST.out⟩
  case round =>
    clear HST
    obtain ⟨i, hi, rfl, nw, ws, F, hnw, hall, hws, hD, hB⟩ := hrel
    have HNW := Lib.hid hnw
    have HALL := Lib.hid hall
    have HWS := Lib.hid hws
    have HD := Lib.hid hD
    have HB := Lib.hid hB
    have hwr := hB.size
    clear hnw hws hD hB hall
    by_cases hlt : i < l
    · have hcw : wr.cell? ⟨sb, so + i, none⟩ = some (.int .u8 (xs.getD i 0 : Nat)) := (HB.out.cell (p := ⟨sb, so + i, none⟩) hsb).trans (HSC.out i hlt)
      have hxb := HXL.out i
      have HFI := Lib.hid (fun w => filled_str (xs.getD i 0) 0 hxb w)
      have HFG := Lib.hid HD.out.ge
      have HXV : Hid (xs.getD i 0 = xs.getD i 0) := Lib.hid rfl
      generalize hxv : xs.getD i 0 = x at hcw hxb HFI
      have HXX := Lib.hid hxv
      clear hxv HXV
      go_wp2_with fail
      refine (HFI.out _).mono ?_
      rintro e w5 ⟨rfl, hb5⟩
      have hD5 := HD.out.keep (Fr.of_all (S := fun _ => False) hb5) (fun _ _ h => h)
      have HB5 := Lib.hid (HB.out.trans (hb5.mono hwr))
      have HW : Hid (Calls Try.prog 12 #[.pointer (some ⟨w.heap.size, 0, none⟩), .int .i64 i, .string (fill x (0 % 256))] w5 (DvWrote w.heap.size w.heap.size 8 false false 0 (List.replicate l page0) nw ws F i (fill x (0 % 256)) w5)) := Lib.hid (dv_write i (fill x (0 % 256)) hD5 (by rw [HNW.out]; omega) (fill_size _ _) (by rw [HWS.out]; omega) (by omega))
      clear hD5 hb5 HD HB HFI
      go_wp2_with fail
      refine HW.out.mono ?_
      rintro e w6 ⟨he, F6, hD6, hS6⟩
      obtain rfl : e = .returned (.int .i64 0) := he
      have HN6 : Hid (KRelA w.heap.size l (xs.getD · 0) w (i + 1) w6) := ⟨_, _, _, by rw [List.length_set]; exact HNW.out, fun j hj => (by
        by_cases e : j = i
        · subst e
          rw [List.getD_eq_getElem?_getD, List.getElem?_set_self (by rw [HNW.out]; exact hlt)]
          show fill x (0 % 256) = fill (xs.getD j 0) 0
          rw [HXX.out]
        · rw [List.getD_eq_getElem?_getD, List.getElem?_set_ne (fun h => e h.symm), ← List.getD_eq_getElem?_getD]
          exact HALL.out j (by omega)), by rw [List.length_append, HWS.out]; rfl, hD6, HB5.out.trans (hS6.1.below HB5.out.size HFG.out)⟩
      clear hD6 hS6 HW HB5
      go_wp2
      go_roundw
      case rel => exact ⟨i + 1, by omega, by go_num, HN6.out⟩
      case measure => simp [intOf]; omega
    · obtain rfl : i = l := by omega
      have HSY := Lib.hid (dv_sync HD.out)
      have HFG := Lib.hid HD.out.ge
      have hnk : DevOK nw nw [] := ⟨rfl, by have h1 := HD.out.ok.len; have h2 := HD.out.ok.few; omega, HD.out.ok.n, HD.out.ok.n, by simp, by simp⟩
      have HNK := Lib.hid hnk
      clear HD hnk
      go_wp2_with fail
      refine HSY.out.mono ?_
      rintro e w3 ⟨rfl, F3, hd3, hs3⟩
      have HST : Hid (KRelB w.heap.size i nw (ys.getD · 0) w 0 w3) := ⟨nw, F3, HNW.out, hd3, HB.out.trans (hs3.1.below hwr HFG.out)⟩
      clear hd3 hs3 HSY HB HFG
      have hiz : ((i : Int) == 0) = false := by simp; omega
      go_wp2
      go_loopw [10] (fun jv wr => ∃ j : Nat, j ≤ m ∧ jv = .int .i64 j ∧ KRelB w.heap.size i nw (ys.getD · 0) w j wr) (fun jv _ => m - (intOf jv).toNat)
      case atStart => exact ⟨0, by omega, rfl, HST.out⟩
      case round =>
        clear HST
        obtain ⟨j, hj, rfl, nv, F, hnv, hD, hB⟩ := hrel
        have HNV := Lib.hid hnv
        have HD := Lib.hid hD
        have HB := Lib.hid hB
        have hwr := hB.size
        clear hnv hD hB
        by_cases hjm : j < m
        · obtain ⟨mb, mo', rfl, hmb, hmc⟩ := HYY.out.2.2 (by omega)
          have hcw : wr.cell? ⟨mb, mo' + j, none⟩ = some (.int .u8 (ys.getD j 0 : Nat)) := (HB.out.cell (p := ⟨mb, mo' + j, none⟩) hmb).trans (hmc j hjm)
          have hxb := HYY.out.2.1 j
          have HFI := Lib.hid (fun w => filled_str (ys.getD j 0) 0 hxb w)
          have HFG := Lib.hid HD.out.ge
          have HRE : Hid (keepWs i (ys.getD · 0) (j + 1) = keepWs i (ys.getD · 0) j ++ [(((j % i : Nat) : Int), fill (ys.getD j 0) 0)]) := Lib.hid (keepWs_succ _ _ _)
          generalize ys.getD j 0 = y at hcw hxb HFI HRE
          have hj1 : (0 : Int) ≤ (j : Int) := by omega
          have hi0 : ¬ i = 0 := by omega
          have hj2 : (j : Int) < (m : Int) := by omega
          have HMI : Hid (j % i < i) := Lib.hid (Nat.mod_lt _ (by omega))
          have hkb2 : ¬ F mb := fun h => by have := HFG.out mb h; omega
          clear hmc
          go_wp2_with fail
          go_region_held3 (fun w' => w'.cell? ⟨mb, mo' + j, none⟩ = some (.int .u8 y))
            (first | go_keep | exact bkeep hb5 (by assumption) | exact (hS6.1.cell (p := ⟨mb, mo' + j, none⟩) (cell_lt (by assumption)) hkb2).trans (by assumption))
            (first
              | (go_at_call 13; refine (HFI.out _).mono ?_; rintro e w5 ⟨rfl, hb5⟩; have hF5 : Fr (fun _ => False) wr w5 := Fr.trans ((Fr.refl (fun _ => False) wr).drew) (Fr.of_all (S := fun _ => False) hb5) (fun _ h _ => h); have hD5 := HD.out.keep hF5 (fun _ _ h => h); have HW := keep_write (i := i) (j := j) (y := y) hD5 (by rw [HNV.out]; exact HMI.out) (by rw [keepWs_length]; omega))
              | (go_at_call 12; refine HW.mono ?_; rintro e w6 ⟨he, F6, hD6, hS6⟩; obtain rfl : e = .returned (.int .i64 0) := he))
          have HN6 : Hid (KRelB w.heap.size i nw (ys.getD · 0) w (j + 1) w6) := ⟨nv.set (j % i) (fill y (0 % 256)), F6, by rw [List.length_set]; exact HNV.out, by rw [HRE.out]; exact hD6, HB.out.trans ((hF5.below (B := w.heap.size) hwr (fun _ h => h.elim)).trans (hS6.1.below (Nat.le_trans hwr hF5.size) HFG.out))⟩
          clear hD6 hS6 HW hD5 hF5 hb5
          go_wp2
          go_roundw
          case rel => exact ⟨j + 1, by omega, by go_num, HN6.out⟩
          case measure => simp [intOf]; omega
        · obtain rfl : j = m := by omega
          have HC := Lib.hid (dv_crash r n e' ks HD.out ((HZZ.out.below HB.out).more hwr) (fun hn0 a ha hF => by
            have h9 := HD.out.ge _ hF
            obtain ⟨b, o, hp, hb, _⟩ := HZZ.out.2 hn0
            rw [hp] at ha
            injection ha with ha
            subst ha
            exact absurd h9 (by show ¬ w.heap.size ≤ b; omega)) (by omega))
          rw [keepWs_length] at HC
          have HFG := Lib.hid HD.out.ge
          have HCK := Lib.hid (fun p k hp hk => crash_keeps i (ys.getD · 0) nw ks j j p k (by omega) HNW.out HNK.out.s (Nat.le_refl _) hp hk)
          clear HD
          generalize crashL nw (keepWs i (ys.getD · 0) j) ks j = Q at *
          go_wp2_with fail
          refine HC.out.mono ?_
          rintro e w4 ⟨rfl, F4, hd4, hs4⟩
          have HR := Lib.hid (dv_restore hd4 (by omega))
          have HB4 := Lib.hid (HB.out.trans (hs4.1.below hwr HFG.out))
          have HG4 := Lib.hid hd4.ge
          have HH4 := Lib.hid hd4.here
          clear hd4 hs4 HC HB HFG
          go_wp2_with fail
          refine HR.out.mono ?_
          rintro e w5 ⟨rfl, hd5, hf5⟩
          have HD5 := Lib.hid hd5
          have HB5 := Lib.hid (HB4.out.trans (hf5.below HB4.out.size (fun k hk => HG4.out k (by have : k = w.heap.size := hk; rw [this]; exact HH4.out))))
          have hz5 := HB5.out.size
          have HQL : Hid (Q.length = i) := (HCK.out 0 0 (by omega) (by omega)).1
          have HQS : Hid (∀ x ∈ Q, x.size = 256) := (HCK.out 0 0 (by omega) (by omega)).2.1
          have HSEC : Hid (∀ p k, p < i → k < 8 → sectS (Q.getD p default) k = sectS (fill (xs.getD p 0) 0) k ∨ ∃ a, a < j ∧ a % i = p ∧ sectS (Q.getD p default) k = sectS (fill (ys.getD a 0) 0) k) := Lib.hid (fun p k hp hk => by
            rcases (HCK.out p k hp hk).2.2 with h | ⟨a, h1, h2, h3⟩
            · exact .inl ((sectS_eq h).trans (by rw [HALL.out p hp]))
            · exact .inr ⟨a, h1, h2, sectS_eq h3⟩)
          clear hd5 hf5 HB4 HR HG4 HH4 HCK
          go_wp2
          go_loopw [11, 12] (fun v pv wr => ∃ p : Nat, p ≤ i ∧ pv = .int .i64 p ∧ Below w5.heap.size w5 wr ∧ wr.ownsRow w5.heap.size 9 1 v p (rowOf scells (Q.take p))) (fun _ pv _ => i - (intOf pv).toNat)
          case atStart => exact ⟨0, by omega, rfl, Below.refl _ _, World.ownsRow_nil _ _ _ _⟩
          case round =>
            obtain ⟨p, hp, rfl, hb6, ho6⟩ := hrel
            obtain ⟨qa, cp, rfl⟩ := owns_slice ho6
            have HB6 := Lib.hid hb6
            have HO6 := Lib.hid ho6
            have hz6 := hb6.size
            clear hb6 ho6
            by_cases hpi : p < i
            · have HRD := Lib.hid (dv_read p (HD5.out.keep (Fr.of_all (S := fun _ => False) HB6.out) (fun _ _ h => h)) (by rw [HQL.out]; exact hpi))
              have HTK : Hid (Q.take (p + 1) = Q.take p ++ [Q.getD p default]) := Lib.hid (by
                rw [List.take_add_one, List.getD_eq_getElem?_getD, List.getElem?_eq_getElem (by rw [HQL.out]; exact hpi)]
                rfl)
              have HXS := Lib.hid (HQS.out _ (getD_mem (l := Q) (n := p) (by rw [HQL.out]; exact hpi)))
              have HSC2 := Lib.hid (fun k hk => HSEC.out p k hpi hk)
              have HCP := Lib.hid (HSC.out p hpi)
              have HXB := Lib.hid (HXL.out p)
              generalize xs.getD p 0 = sv at HSC2 HCP HXB
              generalize Q.getD p default = x at *
              have hxs : ((x.size : Int) != 256) = false := by rw [HXS.out]; rfl
              have hx1 : x.size ≤ 256 := by have := HXS.out; omega
              have hx2 : 256 ≤ x.size := by have := HXS.out; omega
              go_wp2_with fail
              refine HRD.out.mono ?_
              rintro e w7 ⟨rfl, rfl⟩
              clear HRD
              obtain ⟨i0, hi0, hz0, hz1, hz2⟩ := info_parts info_string
              go_wp2_with (at_builtin; refine wpList_append_own _ rfl _ _ 34 rfl w5.heap.size 9 i0 _ 1 16 Try.underlying34 hi0 hz0 hz1 hz2 rfl (by omega) (.slice qa p cp) p (rowOf scells (Q.take p)) rfl ?own ⟨w7.heap.size, 0, none⟩ 1 1 [.string x] rfl rfl ?cells ?one ?len ?bytes ?base ?_; (case own => exact HO6.out.alloc _); (case cells => exact new_cells w7 _ _); (case one => simp [Value.oneCell']); (case len => unfold maxLen; omega); (case bytes => omega); (case base => simp; omega); intro v8 w8 hown hgr _; have HOW := Lib.hid hown; have HGR := Lib.hid hgr; clear hown hgr)
              have HB8 : Hid (Below w5.heap.size w5 w8) := Lib.hid ((HB6.out.alloc hz6 _).grown HGR.out (by simp; omega) (fun g hg => (HO6.out.lt g hg).1))
              have HO8 : Hid (w8.ownsRow w5.heap.size 9 1 v8 (p + 1) (rowOf scells (Q.take (p + 1)))) := Lib.hid (by rw [HTK.out, rowOf_append, rowOf_one]; exact HOW.out)
              clear HOW HGR HB6 HO6
              go_wp2
              go_loopw [15] (fun kv wr => ∃ k : Nat, k ≤ 8 ∧ kv = .int .i64 k ∧ Below w5.heap.size w5 wr ∧ wr.ownsRow w5.heap.size 9 1 v8 (p + 1) (rowOf scells (Q.take (p + 1)))) (fun kv _ => 8 - (intOf kv).toNat)
              case atStart => exact ⟨0, by omega, rfl, HB8.out, HO8.out⟩
              case round =>
                clear HB8 HO8
                obtain ⟨k, hk, rfl, hb9, ho9⟩ := hrel
                have HB9 := Lib.hid hb9
                have HO9 := Lib.hid ho9
                have hz9 := hb9.size
                clear hb9 ho9
                by_cases hk8 : k < 8
                · have hcw : wr.cell? ⟨sb, so + p, none⟩ = some (.int .u8 (sv : Nat)) := ((HB9.out.mono hz5).cell (p := ⟨sb, so + p, none⟩) hsb).trans ((HB5.out.cell (p := ⟨sb, so + p, none⟩) hsb).trans HCP.out)
                  have HFI := Lib.hid (fun w => filled_str sv 0 HXB.out w)
                  have hfs := fill_size sv (0 % 256)
                  have hf1 : (fill sv (0 % 256)).size ≤ 256 := by omega
                  have hf2 : 256 ≤ (fill sv (0 % 256)).size := by omega
                  have HS9 := Lib.hid (HSC2.out k hk8)
                  rw [show fill sv 0 = fill sv (0 % 256) from rfl] at HS9
                  clear hfs
                  generalize fill sv (0 % 256) = fs at *
                  go_wp2_with fail
                  refine (HFI.out _).mono ?_
                  rintro e w9 ⟨rfl, hb9⟩
                  have HB9 := Lib.hid (HB9.out.trans (hb9.mono hz9))
                  have HO9 := Lib.hid ((Fr.of_all (S := fun _ => False) hb9).owns HO9.out (fun _ _ h => h))
                  have hz9 := HB9.out.size
                  clear hb9 HFI hcw
                  go_wp2
                  go_loopw [17, 18] (fun gv av wr => ∃ (a : Nat) (g : Bool), gv = .bool g ∧ av = .int .i64 a ∧ a % i = p ∧ a ≤ j + 8 ∧ (g = true ∨ ∃ t, a + i * t < j ∧ sectS x k = sectS (fill (ys.getD (a + i * t) 0) 0) k) ∧ Below w5.heap.size w5 wr ∧ wr.ownsRow w5.heap.size 9 1 v8 (p + 1) (rowOf scells (Q.take (p + 1)))) (fun _ av _ => j + 9 - (intOf av).toNat)
                  case atStart =>
                    refine ⟨p, _, rfl, rfl, Nat.mod_eq_of_lt hpi, by omega, ?_, HB9.out, HO9.out⟩
                    rcases HS9.out with h | ⟨a, h1, h2, h3⟩
                    · left
                      have h9 : x.extract (32 * k) (32 * k + 32) = fs.extract (32 * k) (32 * k + 32) := h
                      rw [h9]
                      simp
                    · right
                      have h4 : p + i * (a / i) = a := by rw [← h2]; exact Nat.mod_add_div a i
                      exact ⟨a / i, by omega, by rw [h4]; exact h3⟩
                  case round =>
                    clear HB9 HO9 HS9
                    obtain ⟨a, g, rfl, rfl, hap, ha8, hg, hb10, ho10⟩ := hrel
                    have HB10 := Lib.hid hb10
                    have HO10 := Lib.hid ho10
                    have hz10 := hb10.size
                    have HAP : Hid ((a + i) % i = p) := Lib.hid (by rw [Nat.add_mod_right]; exact hap)
                    clear hb10 ho10 hap
                    by_cases haj : a < j
                    · cases g with
                      | true =>
                        clear hg
                        go_wp2
                        go_roundw
                        case rel => exact ⟨a + i, true, rfl, by go_num, HAP.out, by omega, .inl rfl, HB10.out, HO10.out⟩
                        case measure => simp [intOf]; omega
                      | false =>
                        obtain ⟨mb, mo', rfl, hmb, hmc⟩ := HYY.out.2.2 (by omega)
                        have hcw : wr.cell? ⟨mb, mo' + a, none⟩ = some (.int .u8 (ys.getD a 0 : Nat)) := ((HB10.out.mono hz5).cell (p := ⟨mb, mo' + a, none⟩) hmb).trans ((HB5.out.cell (p := ⟨mb, mo' + a, none⟩) hmb).trans (hmc a haj))
                        have hyb := HYY.out.2.1 a
                        have HFI := Lib.hid (fun w => filled_str (ys.getD a 0) 0 hyb w)
                        have HGG : Hid (sectS x k = sectS (fill (ys.getD a 0) (0 % 256)) k ∨ ∃ t, a + i + i * t < j ∧ sectS x k = sectS (fill (ys.getD (a + i + i * t) 0) 0) k) := Lib.hid (by
                          rcases hg with h | ⟨t, h1, h2⟩
                          · cases h
                          · cases t with
                            | zero => exact .inl h2
                            | succ t =>
                              have e : a + i + i * t = a + i * (t + 1) := by rw [Nat.mul_succ]; omega
                              exact .inr ⟨t, by rw [e]; exact h1, by rw [e]; exact h2⟩)
                        clear hg hmc
                        generalize ys.getD a 0 = yv at hcw hyb HFI HGG
                        have hfs := fill_size yv (0 % 256)
                        have hf3 : (fill yv (0 % 256)).size ≤ 256 := by omega
                        have hf4 : 256 ≤ (fill yv (0 % 256)).size := by omega
                        clear hfs
                        generalize fill yv (0 % 256) = fy at *
                        go_wp2_with fail
                        refine (HFI.out _).mono ?_
                        rintro e w11 ⟨rfl, hb11⟩
                        have HB11 := Lib.hid (HB10.out.trans (hb11.mono hz10))
                        have HO11 := Lib.hid ((Fr.of_all (S := fun _ => False) hb11).owns HO10.out (fun _ _ h => h))
                        clear hb11 HFI hcw
                        go_wp2
                        go_roundw
                        case rel =>
                          refine ⟨a + i, _, rfl, by go_num, HAP.out, by omega, ?_, HB11.out, HO11.out⟩
                          rcases HGG.out with h | h
                          · left
                            have h9 : x.extract (32 * k) (32 * k + 32) = fy.extract (32 * k) (32 * k + 32) := h
                            rw [h9]
                            simp
                          · exact .inr h
                        case measure => simp [intOf]; omega
                    · obtain rfl : g = true := by
                        rcases hg with h | ⟨t, h1, _⟩
                        · exact h
                        · exact absurd (Nat.le_trans (Nat.le_add_right a (i * t)) (Nat.le_of_lt h1)) (by omega)
                      clear hg
                      go_wp2
                      go_roundw
                      case rel => exact ⟨k + 1, by omega, by go_num, HB10.out, HO10.out⟩
                      case measure => simp [intOf]; omega
                · obtain rfl : k = 8 := by omega
                  go_wp2
                  go_roundw
                  case rel => exact ⟨p + 1, by omega, by go_num, HB9.out, HO9.out⟩
                  case measure => simp [intOf]; omega
            · obtain rfl : p = i := by omega
              have hFA : Fr (fun q => w5.heap.size ≤ q) w5 (wr.alloc (.cells #[.int .i64 255, .int .i64 255] 3)) := (Fr.of_all HB6.out).alloc _
              have hdA := HD5.out.keep hFA (fun q hq h => by have := HD5.out.lt q hq; omega)
              have HC : Hid (Calls Try.prog 15 #[.pointer (some ⟨w.heap.size, 0, none⟩), .slice (some ⟨wr.heap.size, 0, none⟩) 2 2] (wr.alloc (.cells #[.int .i64 255, .int .i64 255] 3)) fun e w' => e = .returned (.tuple #[]) ∧ ∃ F', Dv w.heap.size w.heap.size 8 false false 0 Q Q [] F' w' ∧ Step F4 F' (wr.alloc (.cells #[.int .i64 255, .int .i64 255] 3)) w') := Lib.hid (dv_crash (some ⟨wr.heap.size, 0, none⟩) 2 2 [255, 255] hdA (rd_two wr 255 255) (fun _ a ha hF => by
                injection ha with ha
                subst ha
                have := HD5.out.lt _ hF
                exact absurd this (by show ¬ wr.heap.size < w5.heap.size; omega)) (by omega))
              have HLT := Lib.hid HD5.out.lt
              have HGE := Lib.hid HD5.out.ge
              have HOA := Lib.hid (((Fr.refl (fun _ => False) wr).alloc (.cells #[.int .i64 255, .int .i64 255] 3)).owns HO6.out (fun _ _ h => h))
              have HBA : Hid (Below w.heap.size w (wr.alloc (.cells #[.int .i64 255, .int .i64 255] 3))) := Lib.hid (HB5.out.trans ((HB6.out.mono hz5).alloc (by omega) _))
              clear hFA hdA
              go_wp2_with fail
              refine HC.out.mono ?_
              rintro e w12 ⟨rfl, F6, hd12, hs12⟩
              have HR := Lib.hid (dv_restore hd12 (by omega))
              have HB12 := Lib.hid (HBA.out.trans (hs12.1.below HBA.out.size HGE.out))
              have HO12 := Lib.hid (hs12.1.owns HOA.out (fun g hg h => by have h1 := (HO6.out.lt g hg).1; have h2 := HLT.out g h; omega))
              have HG12 := Lib.hid hd12.ge
              have HH12 := Lib.hid hd12.here
              have HDB : Hid (w.heap.size < w5.heap.size) := Lib.hid (cell_lt (p := ⟨w.heap.size, 0, none⟩) (by obtain ⟨_, _, _, h, _⟩ := HD5.out; exact h.c0))
              clear hd12 hs12 HC HOA HBA
              go_wp2_with fail
              refine HR.out.mono ?_
              rintro e w13 ⟨rfl, hd13, hf13⟩
              have HD13 := Lib.hid hd13
              have HB13 := Lib.hid (HB12.out.trans (hf13.below HB12.out.size (fun k hk => HG12.out k (by have : k = w.heap.size := hk; rw [this]; exact HH12.out))))
              have hO13 := hf13.owns HO12.out (fun g hg h => by have h1 := (HO6.out.lt g hg).1; have h2 : g = w.heap.size := h; have := HDB.out; omega)
              obtain ⟨g, cq, hvq, hgb, hgl, _⟩ := owns_len hO13 (by omega)
              injection hvq with hvq1 _ hvq2
              subst hvq1 hvq2
              have HROW : Hid (∀ a, a < p → w13.cell? ⟨g, a, none⟩ = some (.string (Q.getD a default))) := Lib.hid (fun a ha => by
                have r0 := rowOf_at scells scells_length (Q.take p) a 0 (by rw [List.length_take, HQL.out]; omega) (by omega)
                rw [Nat.mul_one, Nat.add_zero] at r0
                have e := hO13.cells (g := g) rfl a (.string (Q.getD a default)) (by
                  rw [r0]
                  have : (Q.take p).getD a default = Q.getD a default := by
                    rw [List.getD_eq_getElem?_getD, List.getD_eq_getElem?_getD, List.getElem?_take, if_pos ha]
                  rw [this]
                  rfl)
                rw [add_at0] at e
                exact e)
              clear hd13 hf13 hO13 HR HB12 HO12 HG12 HH12 HLT HGE HO6
              go_wp2
              go_loop [19] (fun av => ∃ a : Nat, a ≤ p ∧ av = .int .i64 a) (fun av => p - (intOf av).toNat)
              case atStart => exact ⟨0, by omega, rfl⟩
              case round =>
                obtain ⟨a, ha, rfl⟩ := hrel
                by_cases hap : a < p
                · have HRD := Lib.hid (dv_read a HD13.out (by rw [HQL.out]; exact hap))
                  have hcl := HROW.out a hap
                  generalize Q.getD a default = x at *
                  go_wp2_with fail
                  refine HRD.out.mono ?_
                  rintro e w15 ⟨rfl, rfl⟩
                  go_wp2
                  go_round
                  case rel => exact ⟨a + 1, by omega, by go_num⟩
                  case measure => simp [intOf]; omega
                · obtain rfl : a = p := by omega
                  go_wp2_with fail
                  refine (alive_true _).mono ?_
                  rintro e w16 ⟨rfl, hb16⟩
                  have HBE := Lib.hid (HB13.out.trans (hb16.mono HB13.out.size))
                  clear hb16
                  go_wp2
                  go_ret
                  exact ⟨rfl, HBE.out⟩

theorem devKeeps_walk (p q r : Option Addr) (l m n c d e' : Nat) (xs ys : List Nat) (ks : List Int) (w : World) (hx : RdU w w.heap.size p l xs) (hy : RdU w w.heap.size q m ys) (hz : RdI w w.heap.size r n ks) (hl : (l : Int) ≤ 9223372036854775807) (hm : (m : Int) ≤ 9223372036854775807) (hn : (n : Int) ≤ 9223372036854775807) :
    Calls Try.prog 3 #[.slice p l c, .slice q m d, .slice r n e'] w fun e w' => e = .returned (.bool true) ∧ Below w.heap.size w w' := by
  by_cases h : 8 < l ∨ l = 0 ∨ 40 < m ∨ 60 < n
  · exact devKeeps_out p q r l m n c d e' w hl hm hn h
  · exact devKeeps_in p q r l m n c d e' xs ys ks w hx hy hz (by omega) (by omega) (by omega) (by omega)
end Go.Proofs.Ytahjhhmhgjkheaa
