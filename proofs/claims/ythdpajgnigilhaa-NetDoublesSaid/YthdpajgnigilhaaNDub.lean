/- arboretumlaw27.NetDoubles: the walk. -/
import Derived.Test.YthdpajgnigilhaaNDubL
namespace Go.Proofs.Ythdpajgnigilhaa
open Go.RowKit Go.Conc

set_option maxHeartbeats 1000000 in
set_option maxRecDepth 100000 in
theorem netDub_out (n k b : Int) (h : n < 1 ∨ (1 ≤ n ∧ (40 < n ∨ (n ≤ 40 ∧ (k < 0 ∨ (0 ≤ k ∧ (n ≤ k ∨ (k < n ∧ (b < 0 ∨ (0 ≤ b ∧ 1000 < b)))))))))) (w : World) :
    Calls Try.prog 5 #[.int .i64 n, .int .i64 k, .int .i64 b] w fun e w' => e = .returned (.bool true) ∧ Below w.heap.size w w' := by
  rcases h with h1 | ⟨h1, h2 | ⟨h2, h3 | ⟨h3, h4 | ⟨h4, h5 | ⟨h5, h6⟩⟩⟩⟩⟩
  all_goals
    go_enter Try.func5, Try.ntmps5
    go_wp2_with fail
    refine (alive_true _).mono ?_
    rintro e w1 ⟨rfl, hb⟩
    go_wp2
    go_ret
    exact ⟨rfl, hb⟩

def SeenI (B : Nat) (f : Nat → Nat) (w : World) : Prop := ∀ a, a < 64 → w.cell? ⟨B, a, none⟩ = some (.int .i64 (f a)) ∧ w.frozen? ⟨B, a, none⟩ = false
theorem SeenI.keep {B : Nat} {f : Nat → Nat} {w w' : World} {T : Nat → Prop} (h : SeenI B f w) (hF : Fr T w w') (hT : ¬ T B) : SeenI B f w' := fun a ha => by
  have hlt : B < w.heap.size := cell_lt (h a ha).1
  exact ⟨(hF.cell (p := ⟨B, a, none⟩) hlt hT).trans (h a ha).1, (hF.frozen (p := ⟨B, a, none⟩) hlt hT).trans (h a ha).2⟩
theorem SeenI.inc {B : Nat} {f : Nat → Nat} {w : World} (h : SeenI B f w) (j : Nat) (hj : j < 64) : SeenI B (fun a => if a = j then f a + 1 else f a) (w.setCell ⟨B, j, none⟩ (.int .i64 ((f j : Int) + 1))) := fun a ha => by
  refine ⟨?_, by rw [frozen_set]; exact (h a ha).2⟩
  by_cases e : a = j
  · subst e
    rw [cell_set_same _ _ _ _ (h a ha).1]
    simp
  · rw [World.cell?_setCell_other _ _ _ _ (by intro e9; injection e9 with _ e9 _; omega)]
    simp [e, (h a ha).1]

theorem seen_start (w : World) : SeenI w.heap.size (fun _ => 0) (w.alloc (.cells (Array.replicate 64 (.int .i64 0)) 38)) := fun a ha => by
  have h := heap_alloc_new w (.cells (Array.replicate 64 (.int .i64 0)) 38)
  refine ⟨?_, ?_⟩
  · rw [cell_of_row _ _ _ _ _ _ h]
    simp [ha]
  · unfold World.frozen?
    rw [h]
    simp

def DubA (w : World) (j : Nat) (wr : World) : Prop := ∃ F, Nt w.heap.size w.heap.size (sn j) (j : Int) (.map none) none (.deferred none) F wr ∧ Below w.heap.size w wr
def DubB (w : World) (n k : Nat) (b : Int) (B j : Nat) (S : List Nd) (seen : Nat → Nat) (wr : World) : Prop := ∃ F, DInv n k b j S seen ∧ Nt w.heap.size w.heap.size S ((n : Int) + 1 + 1) (.map none) none (.deferred none) F wr ∧ SeenI B seen wr ∧ ¬ F B ∧ Below w.heap.size w wr

set_option maxHeartbeats 8000000 in
set_option maxRecDepth 100000 in
theorem netDub_in (n k : Nat) (b : Int) (hn1 : 1 ≤ n) (hn : n ≤ 40) (hk : k < n) (hb0 : 0 ≤ b) (hb1 : b ≤ 1000) (w : World) :
    Calls Try.prog 5 #[.int .i64 n, .int .i64 k, .int .i64 b] w fun e w' => e = .returned (.bool true) ∧ Below w.heap.size w w' := by
  have h1 : ¬ (n : Int) < 1 := by omega
  have h2 : ¬ (40 : Int) < n := by omega
  have h3 : ¬ (k : Int) < 0 := by omega
  have h4 : ¬ (n : Int) ≤ k := by omega
  have h5 : ¬ b < 0 := by omega
  have h6 : ¬ 1000 < b := by omega
  go_enter Try.func5, Try.ntmps5
  go_wp2_with fail
  refine (nt_new w).mono ?_
  rintro e w1 ⟨rfl, hN1, hbw1⟩
  have HA1 : Hid (DubA w 0 w1) := Lib.hid ⟨_, by simpa [sn] using hN1, hbw1⟩
  clear hN1 hbw1
  go_wp2
  go_loopw [8] (fun i wr => ∃ j : Nat, j ≤ n ∧ i = .int .i64 j ∧ Hid (DubA w j wr)) (fun i _ => n - (intOf i).toNat)
  case atStart => exact ⟨0, Nat.zero_le _, rfl, HA1⟩
  case round =>
    obtain ⟨j, hj, rfl, hrel⟩ := hrel
    by_cases hjn : j < n
    · obtain ⟨F, hN, hbw⟩ := hrel.out
      have HS := Lib.hid (nt_send1 10 0 (j : Int) ByteArray.empty hN (fun W _ => look_nil 0 j W) (by decide) (by rw [sn_length]; omega) (by omega) (by omega))
      have HNB := Lib.hid (fun w' (hF : Fr F wr w') => hN.below (Nat.le_refl _) hbw hF)
      clear hN hbw hrel
      go_wp2_with fail
      refine HS.out.mono ?_
      rintro e w3 ⟨rfl, F3, hN3, hst3⟩
      have HR : Hid (DubA w (j + 1) w3) := Lib.hid ⟨F3, by rw [sn_succ]; exact hN3, HNB.out _ hst3.1⟩
      clear hN3 hst3
      go_wp2
      go_roundw
      case rel => exact ⟨j + 1, by omega, by go_num, HR⟩
      case measure => simp [intOf]; omega
    · obtain rfl : j = n := by omega
      obtain ⟨F, hN, hbw⟩ := hrel.out
      have HD := Lib.hid (nt_double k hN (by rw [sn_length]; omega) (by rw [sn_length]; omega) (by omega) (by omega))
      have HNB := Lib.hid (fun w' (hF : Fr F wr w') => hN.below (Nat.le_refl _) hbw hF)
      clear hN hbw hrel
      go_wp2_with fail
      refine HD.out.mono ?_
      rintro e w3 ⟨rfl, x, ts, hts, hsd, hx, F3, hN3, hst3⟩
      have hx0 := hx
      rw [up_sort (sn_up j) (fun y hy => by obtain ⟨i, _, rfl⟩ := sn_mem hy; rfl) hts hsd, sn_el j k hk] at hx0
      subst hx0
      have HB3 := Lib.hid (HNB.out _ hst3.1)
      have HLE := Lib.hid (nt_len hN3)
      rw [List.length_append, sn_length] at HLE
      have HDL := Lib.hid (nt_delay k b hN3 (by rw [List.length_append, sn_length]; omega) (fun y hy => by
        rcases List.mem_append.1 hy with h | h
        · obtain ⟨i, _, rfl⟩ := sn_mem h
          exact ⟨by simp, by simp⟩
        · obtain rfl : y = _ := by simpa using h
          exact ⟨by simp, by simp⟩) hb0 (by omega) (by rw [List.length_append, sn_length]; simp; omega) (by omega) (by omega))
      have HNB3 := Lib.hid (fun w' (hF : Fr F3 w3 w') => hN3.below (Nat.le_refl _) HB3.out hF)
      clear hN3 hst3 hts hsd hx HD HNB
      go_wp2_with fail
      refine HLE.out.mono ?_
      rintro e w4 ⟨rfl, rfl⟩
      clear HLE
      have hn41 : (((j + [(⟨0, (k : Int), ByteArray.empty, 10, (j : Int) + 1⟩ : Nd)].length : Nat) : Int) == (j : Int) + 1) = true := by simp
      go_wp2_with fail
      refine HDL.out.mono ?_
      rintro e w5 ⟨rfl, x, ts2, hts, hsd, hx, S1, F5, hp, hN5, hst5⟩
      obtain ⟨e1, e2, e3, e4, hinv⟩ := DInv.start (by' := b) hk hts hsd hx hp
      have hz : (⟨x.fr, x.to, x.da, x.at' + b, (j : Int) + 1 + 1⟩ : Nd) = zD j k b := by rw [e1, e2, e3, e4]; rfl
      rw [hz] at hN5
      have HB5 := Lib.hid (HNB3.out _ hst5.1)
      have HLE := Lib.hid (nt_len hN5)
      have hl5 : ((S1 ++ [zD j k b]).length : Int) = (j : Int) + 1 := by have := hinv.len; omega
      rw [hl5] at HLE
      have HN5 := Lib.hid hN5
      have HINV := Lib.hid hinv
      have HLT5 := Lib.hid hN5.lt
      clear hN5 hst5 hts hsd hx hp hinv e1 e2 e3 e4 hz hl5 HDL HNB3
      go_wp2_with fail
      refine HLE.out.mono ?_
      rintro e w6 ⟨rfl, rfl⟩
      clear HLE hn41
      go_wp2
      go_loopw [10] (fun i wr => ∃ a : Nat, a ≤ j + 1 ∧ i = .int .i64 a ∧ Hid (∃ S seen, DubB w j k b w5.heap.size a S seen wr)) (fun i _ => j + 1 - (intOf i).toNat)
      case atStart => exact ⟨0, Nat.zero_le _, rfl, Lib.hid ⟨_, fun _ => 0, F5, HINV.out, HN5.out.keep ((Fr.refl (fun _ => False) w5).alloc _) (fun _ _ h => h) (fun _ _ h => h), seen_start w5, fun h => by have := HLT5.out _ h; omega, HB5.out.alloc HB5.out.size _⟩⟩
      case round =>
        have HBW5 : Hid (w.heap.size ≤ w5.heap.size) := Lib.hid HB5.out.size
        clear HN5 HINV HLT5 HB3 HB5 HA1
        obtain ⟨a, ha, rfl, hrel⟩ := hrel
        by_cases haj : a ≤ j
        · obtain ⟨S, seen, F, hinv, hN, hS, hFB, hbw⟩ := hrel.out
          have hSl := hinv.len
          obtain ⟨x, hx, hmin, -, hdue⟩ := nt_due (10 + b) hN (by omega)
          obtain ⟨jx, hjx, hto⟩ := hinv.to x hx
          have hatx : x.at' ≤ 10 + b := by
            rcases hinv.at10 x hx with e | e
            · omega
            · rw [e]; simp [zD]
          have HD := Lib.hid (hdue hatx)
          rw [hto] at HD
          have HST : Hid (∀ S', (x :: S').Perm S → (0 < b → a = j → jx = k) ∧ DInv j k b (a + 1) S' (fun c => if c = jx then seen c + 1 else seen c)) := Lib.hid (fun S' hp => by
            obtain ⟨j2, _, h2, _, h4, h5⟩ := hinv.step hb0 hx hmin hp
            have : j2 = jx := by omega
            subst this
            exact ⟨h4, h5⟩)
          have HS := Lib.hid hS
          have HFB := Lib.hid hFB
          have HLTF := Lib.hid hN.lt
          have HNB := Lib.hid (fun w' (hF : Fr F wr w') => hN.below (Nat.le_refl _) hbw hF)
          have hBlt : w5.heap.size < wr.heap.size := cell_lt (hS 0 (by omega)).1
          clear hdue hinv hN hS hFB hbw hx hmin hrel hto hatx hSl
          go_wp2_with fail
          refine HD.out.mono ?_
          rintro e w7 ⟨rfl, S', F7, hp, hN7, hst7⟩
          obtain ⟨hjk, hinv7⟩ := HST.out S' hp
          have hS7 := HS.out.keep hst7.1 HFB.out
          have hB7 : w5.heap.size < w7.heap.size := by have := hst7.1.size; omega
          have hF7B : ¬ F7 w5.heap.size := fun h => by rcases hst7.2 _ h with h | h; exact HFB.out h; omega
          have hS8 := hS7.keep ((Fr.refl (fun _ => False) w7).alloc (.cells #[.int .i64 x.fr, .int .i64 jx, .string x.da] 34)) (fun h => h)
          have hsc := hS8 jx (by omega)
          have hN8 := hN7.keep ((Fr.refl (fun _ => False) w7).alloc (.cells #[.int .i64 x.fr, .int .i64 jx, .string x.da] 34)) (fun _ _ h => h) (fun _ _ h => h)
          have hN9 := hN8.keep ((Fr.refl (fun c => c = w5.heap.size) _).setCell (p := ⟨w5.heap.size, jx, none⟩) (fun _ => rfl) (.int .i64 ((seen jx : Int) + 1))) (fun c hc e => hF7B (by have : c = w5.heap.size := e; rw [← this]; exact hc)) (fun _ h _ => by cases h)
          have HREL : Hid (∃ S se, DubB w j k b w5.heap.size (a + 1) S se ((w7.alloc (.cells #[.int .i64 x.fr, .int .i64 jx, .string x.da] 34)).setCell ⟨w5.heap.size, jx, none⟩ (.int .i64 ((seen jx : Int) + 1)))) := Lib.hid
            ⟨S', _, F7, hinv7, hN9, hS8.inc jx (by omega), hF7B, ((HNB.out _ hst7.1).alloc (HNB.out _ hst7.1).size _).setCell (p := ⟨w5.heap.size, jx, none⟩) (by have := HBW5.out; exact this) _⟩
          obtain ⟨hsc1, hsc2⟩ := hsc
          have p1 : (w7.alloc (.cells #[.int .i64 x.fr, .int .i64 jx, .string x.da] 34)).cell? ⟨w7.heap.size, 1, none⟩ = some (.int .i64 jx) := by clear hsc1 hsc2; go_simp
          have hseenb : seen jx ≤ 1000 := by have := hinv7.cnt jx hjx; simp [wantD] at this; split at this <;> omega
          have hj0 : ¬ (jx : Int) < 0 := by omega
          have hjn' : ¬ (j : Int) ≤ jx := by omega
          have hne7 : w5.heap.size ≠ w7.heap.size := by omega
          have HJK := Lib.hid hjk
          clear hinv7 hN7 hN8 hN9 hst7 hS7 hS8 hjk hp HST HD HS HNB HLTF
          rw [World.setCell_alloc_past _ _ _ _ hB7] at HREL
          unfold pkv
          have hcase : ¬ 0 < b ∨ (0 < b ∧ ¬ a = j) ∨ (0 < b ∧ a = j) := by omega
          rcases hcase with hb9 | ⟨hb9, hb8⟩ | ⟨hb9, hb8⟩
          · clear HJK
            go_wp2
            go_roundw
            case rel => exact ⟨a + 1, by omega, by go_num, HREL⟩
            case measure => simp [intOf]; omega
          · have hq : ((a : Int) == (j : Int)) = false := by rw [beq_eq_false_iff_ne]; omega
            clear HJK
            go_wp2
            go_roundw
            case rel => exact ⟨a + 1, by omega, by go_num, HREL⟩
            case measure => simp [intOf]; omega
          · have hq : ((a : Int) == (j : Int)) = true := by rw [beq_iff_eq]; omega
            have hq2 : ((jx : Int) != (k : Int)) = false := by have := HJK.out hb9 hb8; subst this; simp
            clear HJK
            go_wp2
            go_roundw
            case rel => exact ⟨a + 1, by omega, by go_num, HREL⟩
            case measure => simp [intOf]; omega
        · obtain ⟨S, seen, F, hinv, hN, hS, hFB, hbw⟩ := hrel.out
          obtain rfl : a = j + 1 := by omega
          have hS0 : S = [] := List.eq_nil_of_length_eq_zero (by have := hinv.len; omega)
          subst hS0
          have hwant : Hid (∀ c, c < j → seen c = wantD k c) := Lib.hid (fun c hc => by have := hinv.cnt c hc; simpa [toC] using this)
          have HS := Lib.hid hS
          have HN := Lib.hid hN
          have HB := Lib.hid hbw
          clear hinv hN hS hFB hbw hrel
          go_wp2
          go_loop [13] (fun i => ∃ c : Nat, c ≤ j ∧ i = .int .i64 c) (fun i => j - (intOf i).toNat)
          case atStart => exact ⟨0, Nat.zero_le _, rfl⟩
          case round =>
            obtain ⟨c, hc, rfl⟩ := hrel
            by_cases hcj : c < j
            · have hcell := (HS.out c (by omega)).1
              rw [hwant.out c hcj] at hcell
              by_cases hck : c = k
              · have hq : ((c : Int) == (k : Int)) = true := by rw [beq_iff_eq]; omega
                have hw : wantD k c = 2 := by simp [wantD, hck]
                rw [hw] at hcell
                clear hw hck
                go_wp2
                go_round
                case rel => exact ⟨c + 1, by omega, by go_num⟩
                case measure => simp [intOf]; omega
              · have hq : ((c : Int) == (k : Int)) = false := by rw [beq_eq_false_iff_ne]; omega
                have hw : wantD k c = 1 := by simp [wantD, hck]
                rw [hw] at hcell
                clear hw
                go_wp2
                go_round
                case rel => exact ⟨c + 1, by omega, by go_num⟩
                case measure => simp [intOf]; omega
            · clear hwant HS
              have HAL := Lib.hid (alive_true wr)
              go_wp2_with fail
              refine HAL.out.mono ?_
              rintro e w10 ⟨rfl, hb10⟩
              have HN10 := Lib.hid (HN.out.keep (Fr.of_all (S := fun _ => False) hb10) (fun _ _ h => h) (fun _ _ h => h))
              have HB10 := Lib.hid (HB.out.trans (hb10.mono HB.out.size))
              have HLE := Lib.hid (nt_len HN10.out)
              have HDR := Lib.hid (nt_drop_no 0 HN10.out (by simp))
              clear hb10 HAL HN HB
              go_wp2_with fail
              refine HLE.out.mono ?_
              rintro e w11 ⟨rfl, rfl⟩
              go_wp2_with fail
              refine HDR.out.mono ?_
              rintro e w11 ⟨rfl, hb11⟩
              have HN11 := Lib.hid (HN10.out.keep (Fr.of_all (S := fun _ => False) hb11) (fun _ _ h => h) (fun _ _ h => h))
              have HB11 := Lib.hid (HB10.out.trans (hb11.mono HB10.out.size))
              have HDO := Lib.hid (nt_double_no 0 HN11.out (by simp))
              have HDE := Lib.hid (nt_delay_no 0 1 HN11.out (by simp))
              clear hb11 HN10 HB10 HLE HDR
              go_wp2_with fail
              refine HDO.out.mono ?_
              rintro e w12 ⟨rfl, rfl⟩
              go_wp2_with fail
              refine HDE.out.mono ?_
              rintro e w12 ⟨rfl, rfl⟩
              go_wp2
              go_ret
              exact ⟨rfl, HB11.out⟩

theorem netDub_walk (n k b : Int) (w : World) :
    Calls Try.prog 5 #[.int .i64 n, .int .i64 k, .int .i64 b] w fun e w' => e = .returned (.bool true) ∧ Below w.heap.size w w' := by
  by_cases h : n < 1 ∨ (1 ≤ n ∧ (40 < n ∨ (n ≤ 40 ∧ (k < 0 ∨ (0 ≤ k ∧ (n ≤ k ∨ (k < n ∧ (b < 0 ∨ (0 ≤ b ∧ 1000 < b)))))))))
  · exact netDub_out n k b h w
  · obtain ⟨n', rfl⟩ := Int.eq_ofNat_of_zero_le (show 0 ≤ n by omega)
    obtain ⟨k', rfl⟩ := Int.eq_ofNat_of_zero_le (show 0 ≤ k by omega)
    exact netDub_in n' k' b (by omega) (by omega) (by omega) (by omega) (by omega) w
end Go.Proofs.Ythdpajgnigilhaa
