/- arboretumref1.Open. -/
import Derived.Test.YtpoiopjggmhnjaaDoorROpenP
namespace Go.Proofs.YtpoiopjggmhnjaaDoor
open Go.RowKit
attribute [local go_sem ↓] Go.wp_at_zero Go.wp_at_succ

set_option maxHeartbeats 1000000 in
set_option maxRecDepth 100000 in
theorem ref_open_short (id : Int) (b : ByteArray) (w : World) (h : b.size ≠ 256) :
    Calls Tryd.prog 32 #[.int .i64 id, .string b] w fun e w' => e = .returned (.tuple #[pv 0 0 ByteArray.empty, .int .i64 5]) ∧ Below w.heap.size w w' := by
  have h1 : ((b.size : Int) != 256) = true := by rw [bne_iff_ne]; omega
  clear h
  go_enter Tryd.func32, Tryd.ntmps32
  go_wp2
  exact bodyPost_ret (v := .tuple #[pv 0 0 ByteArray.empty, .int .i64 5]) (by simp [results, Tryd.results32, go_sem, pv]; rfl) rfl ⟨rfl, by repeat (first | exact Below.refl _ _ | refine Below.drew ?_ | refine Below.alloc ?_ (by simp) _ | refine Below.setCell ?_ (by simp) _)⟩

theorem bytes_toList (b : ByteArray) : b.toList = b.data.toList := by
  first | exact Go.ByteArray.toList_eq b | exact _root_.ByteArray.toList_eq b
theorem bytes_beq (a b : ByteArray) : (a.toList == b.toList) = decide (a = b) := by
  rw [bytes_toList, bytes_toList]
  by_cases h : a = b
  · subst h; simp
  · have h2 : ¬ a.data.toList = b.data.toList := fun e => h (by apply ByteArray.ext; exact Array.ext' e)
    rw [decide_eq_false h]
    exact beq_eq_false_iff_ne.2 h2

def openV (id : Int) (b : ByteArray) : Value := if unfixN b 252 4 = crcS (b.extract 0 252) then (if formOK id b = true then .tuple #[pv (byteAt b 0 : Nat) (unfixN b 5 4 : Nat) (b.extract 11 (11 + unfixN b 9 2)), .int .i64 0] else .tuple #[pv 0 0 ByteArray.empty, .int .i64 4]) else .tuple #[pv 0 0 ByteArray.empty, .int .i64 6]

theorem tail_zero (b : ByteArray) (n : Nat) (hb : b.size = 256) (h : ∀ k, 11 + n ≤ k → k < 252 → byteAt b k = 0) : (b.extract (11 + n) 252).data.toList.all (· == 0) = true := by
  rw [List.all_eq_true]
  intro x hx
  obtain ⟨i, hi, rfl⟩ := List.getElem_of_mem hx
  have hs : b.data.size = 256 := hb
  have hi2 : i < 252 - (11 + n) := by
    simp at hi
    omega
  have e := h (11 + n + i) (by omega) (by omega)
  unfold byteAt at e
  rw [Array.getD_eq_getD_getElem?, Array.getElem?_eq_getElem (by omega)] at e
  simp only [Option.getD_some] at e
  rw [beq_iff_eq]
  simp only [ByteArray.data_extract, Array.getElem_toList, Array.getElem_extract]
  exact UInt8.toNat_inj.1 e
theorem tail_not (b : ByteArray) (n k : Nat) (hb : b.size = 256) (h1 : 11 + n ≤ k) (h2 : k < 252) (h : byteAt b k ≠ 0) : (b.extract (11 + n) 252).data.toList.all (· == 0) = false := by
  have hs : b.data.size = 256 := hb
  apply Bool.eq_false_iff.2
  intro e
  rw [List.all_eq_true] at e
  have hl : k - (11 + n) < (b.extract (11 + n) 252).data.toList.length := by simp; omega
  have e2 := e _ (List.getElem_mem hl)
  rw [beq_iff_eq] at e2
  simp only [ByteArray.data_extract, Array.getElem_toList, Array.getElem_extract] at e2
  apply h
  unfold byteAt
  rw [Array.getD_eq_getD_getElem?, Array.getElem?_eq_getElem (by omega)]
  simp only [Option.getD_some]
  rw [show b.data[k] = b.data[11 + n + (k - (11 + n))]'(by omega) by congr 1; omega, e2]
  rfl

set_option maxHeartbeats 4000000 in
set_option maxRecDepth 100000 in
theorem ref_open_long (id : Int) (b : ByteArray) (w : World) (h : b.size = 256) :
    Calls Tryd.prog 32 #[.int .i64 id, .string b] w fun e w' => e = .returned (openV id b) ∧ Below w.heap.size w w' := by
  have h1 : ((b.size : Int) != 256) = false := by rw [h]; rfl
  have hle : b.size ≤ 256 := by omega
  have hge : 256 ≤ b.size := by omega
  have hgi : (252 : Int) ≤ (b.size : Int) := by omega
  have hsx : (b.extract 0 252).size ≤ 1000000 := by rw [ByteArray.size_extract]; omega
  have HCR := Lib.hid (fun w => ref_crc (b.extract 0 252) w hsx)
  have hcl := crcS_lt (b.extract 0 252)
  have HF := Lib.hid (fun w => ref_fixs (crcS (b.extract 0 252)) 4 w hcl (by omega) (by omega) (by omega))
  have HU0 := Lib.hid (fun w => ref_unfix b 0 1 w (by omega) (by omega) (by omega) (by omega))
  have HU1 := Lib.hid (fun w => ref_unfix b 1 4 w (by omega) (by omega) (by omega) (by omega))
  have HU5 := Lib.hid (fun w => ref_unfix b 5 4 w (by omega) (by omega) (by omega) (by omega))
  have HU9 := Lib.hid (fun w => ref_unfix b 9 2 w (by omega) (by omega) (by omega) (by omega))
  have hk0 : unfixN b 0 1 = byteAt b 0 := by simp [unfixN]
  have hnb : (fixS (crcS (b.extract 0 252)) 4).toList == (b.extract 252 b.size).toList ↔ unfixN b 252 4 = crcS (b.extract 0 252) := by
    have e2 := fix_unfix b 252 4 (by omega)
    rw [show 252 + 4 = b.size by omega] at e2
    rw [bytes_beq, decide_eq_true_eq]
    constructor
    · intro e
      exact fix_inj _ _ 4 (unfixN_lt b 252 4) hcl (e2.trans e.symm)
    · intro e
      rw [← e2, e]
  have HV : Hid (openV id b = if unfixN b 252 4 = crcS (b.extract 0 252) then (if formOK id b = true then .tuple #[pv (byteAt b 0 : Nat) (unfixN b 5 4 : Nat) (b.extract 11 (11 + unfixN b 9 2)), .int .i64 0] else .tuple #[pv 0 0 ByteArray.empty, .int .i64 4]) else .tuple #[pv 0 0 ByteArray.empty, .int .i64 6]) := Lib.hid rfl
  have HFO : Hid (formOK id b = (decide ((unfixN b 1 4 : Int) = id) && !(byteAt b 0 == 0) && decide (unfixN b 9 2 ≤ 240) && (b.extract (11 + unfixN b 9 2) 252).data.toList.all (· == 0))) := Lib.hid rfl
  have HN9 := Lib.hid (unfixN_lt b 9 2)
  have HZ := Lib.hid (tail_zero b (unfixN b 9 2) h)
  have HNZ := Lib.hid (fun k => tail_not b (unfixN b 9 2) k h)
  rw [hk0] at HU0
  clear hsx hcl h hk0
  generalize openV id b = V at *
  generalize formOK id b = fo at *
  generalize fixS (crcS (b.extract 0 252)) 4 = F at *
  generalize crcS (b.extract 0 252) = v at *
  generalize unfixN b 252 4 = u at *
  generalize unfixN b 9 2 = n at *
  generalize unfixN b 1 4 = own at *
  generalize unfixN b 5 4 = nx at *
  generalize hk0 : byteAt b 0 = k0 at *
  clear hk0
  generalize (b.extract (11 + n) 252).data.toList.all (· == 0) = al at *
  have HNB := Lib.hid hnb
  clear hnb
  go_enter Tryd.func32, Tryd.ntmps32
  have c0 : (w.alloc (.cells #[.int .i64 0, .int .i64 0, .string ⟨#[]⟩] 54)).cell? ⟨w.heap.size, 0, none⟩ = some (.int .i64 0) := by go_simp
  have c1 : (w.alloc (.cells #[.int .i64 0, .int .i64 0, .string ⟨#[]⟩] 54)).cell? ⟨w.heap.size, 1, none⟩ = some (.int .i64 0) := by clear c0; go_simp
  have c2 : (w.alloc (.cells #[.int .i64 0, .int .i64 0, .string ⟨#[]⟩] 54)).cell? ⟨w.heap.size, 2, none⟩ = some (.string ⟨#[]⟩) := by clear c0 c1; go_simp
  have f0 : ∀ k, (w.alloc (.cells #[.int .i64 0, .int .i64 0, .string ⟨#[]⟩] 54)).frozen? ⟨w.heap.size, k, none⟩ = false := by clear c0 c1 c2; intro k; go_simp
  have HB0 : Hid (Below w.heap.size w (w.alloc (.cells #[.int .i64 0, .int .i64 0, .string ⟨#[]⟩] 54)).drew) := Lib.hid (((Below.refl _ w).alloc (Nat.le_refl _) _).drew)
  have HF0 := Lib.hid f0
  clear f0
  have HC := Lib.hid (And.intro c0 (And.intro c1 c2))
  clear c0 c1 c2
  go_wp2_with fail
  generalize w.alloc (.cells #[.int .i64 0, .int .i64 0, .string ⟨#[]⟩] 54) = W at *
  go_region_held3 (fun _ => True) (first | trivial | go_keep)
    (first
      | (go_at_call 53; refine (HF.out W.drew).mono ?_; rintro e w5 ⟨rfl, hb5⟩; have d0 : w5.cell? ⟨w.heap.size, 0, none⟩ = some (.int .i64 0) := bkeep hb5 HC.out.1; have d1 : w5.cell? ⟨w.heap.size, 1, none⟩ = some (.int .i64 0) := bkeep hb5 HC.out.2.1; have d2 : w5.cell? ⟨w.heap.size, 2, none⟩ = some (.string ⟨#[]⟩) := bkeep hb5 HC.out.2.2; have e0 : w5.frozen? ⟨w.heap.size, 0, none⟩ = false := (bkeepF hb5 HC.out.1).trans (HF0.out 0); have e1 : w5.frozen? ⟨w.heap.size, 1, none⟩ = false := (bkeepF hb5 HC.out.2.1).trans (HF0.out 1); have e2 : w5.frozen? ⟨w.heap.size, 2, none⟩ = false := (bkeepF hb5 HC.out.2.2).trans (HF0.out 2); have HB5 : Hid (Below w.heap.size w w5) := Lib.hid (HB0.out.trans (hb5.mono HB0.out.size)))
      | (go_at_call 54; refine (HCR.out _).mono ?_; rintro e w6 ⟨rfl, rfl⟩))
  clear hb5 HC HF0 HB0 HF HCR
  generalize (F.toList == (b.extract 252 b.size).toList) = qb at *
  obtain ⟨X, hX⟩ : ∃ X, ((w5.setCell ⟨w.heap.size, 0, none⟩ (.int .i64 0)).setCell ⟨w.heap.size, 1, none⟩ (.int .i64 0)).setCell ⟨w.heap.size, 2, none⟩ (.string ⟨#[]⟩) = X := ⟨_, rfl⟩
  obtain ⟨x0, x1, x2⟩ : X.cell? ⟨w.heap.size, 0, none⟩ = some (.int .i64 0) ∧ X.cell? ⟨w.heap.size, 1, none⟩ = some (.int .i64 0) ∧ X.cell? ⟨w.heap.size, 2, none⟩ = some (.string ⟨#[]⟩) := by rw [← hX]; exact cells3 (v0 := .int .i64 0) (v1 := .int .i64 0) (v2 := .string ⟨#[]⟩) d0 d1 d2
  have HBX : Hid (Below w.heap.size w X) := Lib.hid (by rw [← hX]; exact ((HB5.out.setCell (p := ⟨w.heap.size, 0, none⟩) (Nat.le_refl _) _).setCell (p := ⟨w.heap.size, 1, none⟩) (Nat.le_refl _) _).setCell (p := ⟨w.heap.size, 2, none⟩) (Nat.le_refl _) _)
  by_cases hs : u = v
  · obtain rfl : qb = true := HNB.out.2 hs
    have HS := Lib.hid hs
    clear hs
    go_wp2_with fail
    refine (HU0.out _).mono ?_
    rintro e w6 ⟨rfl, rfl⟩
    go_wp2_with fail
    refine (HU1.out _).mono ?_
    rintro e w6 ⟨rfl, rfl⟩
    go_wp2_with fail
    refine (HU5.out _).mono ?_
    rintro e w6 ⟨rfl, rfl⟩
    go_wp2_with fail
    refine (HU9.out _).mono ?_
    rintro e w6 ⟨rfl, rfl⟩
    by_cases ho : (own : Int) = id
    · have ho2 : ((own : Int) != id) = false := by rw [ho]; simp
      by_cases hk : k0 = 0
      · have hk2 : ((k0 : Int) == 0) = true := by rw [hk]; rfl
        have HFF : Hid (fo = false) := Lib.hid (by rw [HFO.out, hk]; simp)
        clear hk ho
        go_wp2
        exact bodyPost_ret (v := .tuple #[pv 0 0 ByteArray.empty, .int .i64 4]) (by simp [results, Tryd.results32, go_sem, pv, x0, x1, x2]; rfl) rfl ⟨by rw [HV.out, if_pos HS.out, HFF.out]; rfl, HBX.out⟩
      · have hk2 : ((k0 : Int) == 0) = false := by simp; omega
        by_cases hn : 240 < n
        · have hn2 : (240 : Int) < (n : Int) := by omega
          have HFF : Hid (fo = false) := Lib.hid (by rw [HFO.out, decide_eq_false (show ¬ n ≤ 240 by omega)]; simp)
          clear hk ho hn
          go_wp2
          exact bodyPost_ret (v := .tuple #[pv 0 0 ByteArray.empty, .int .i64 4]) (by simp [results, Tryd.results32, go_sem, pv, x0, x1, x2]; rfl) rfl ⟨by rw [HV.out, if_pos HS.out, HFF.out]; rfl, HBX.out⟩
        · have hn2 : ¬ (240 : Int) < (n : Int) := by omega
          have HFF : Hid (fo = al) := Lib.hid (by rw [HFO.out, decide_eq_true ho, decide_eq_true (show n ≤ 240 by omega), show (k0 == 0) = false by simp; omega]; simp)
          have HNL : Hid (n ≤ 240) := Lib.hid (by omega)
          have hn1 : (11 : Int) ≤ 11 + (n : Int) := by omega
          have hn3 : (11 : Int) + (n : Int) ≤ (b.size : Int) := by omega
          clear hk ho hn
          go_wp2
          go_loop [14] (fun av => ∃ k : Nat, 11 + n ≤ k ∧ k ≤ 252 ∧ av = .int .i64 k ∧ Hid (∀ j, 11 + n ≤ j → j < k → byteAt b j = 0)) (fun av => 252 - (intOf av).toNat)
          case atStart => exact ⟨11 + n, by omega, by have := HNL.out; omega, by go_num, Lib.hid (fun j h1 h2 => by omega)⟩
          case round =>
            obtain ⟨k, hk1, hk2, rfl, HJ⟩ := hrel
            by_cases hlt : k < 252
            · have hbg := byteAt_get b k (by omega)
              by_cases hy : byteAt b k = 0
              · have HJN : Hid (∀ j, 11 + n ≤ j → j < k + 1 → byteAt b j = 0) := Lib.hid (fun j g1 g2 => by
                  by_cases e : j = k
                  · rw [e]; exact hy
                  · exact HJ.out j g1 (by omega))
                rw [hy] at hbg
                clear hy
                go_wp2
                go_round
                case rel => exact ⟨k + 1, by omega, by omega, by go_num, HJN⟩
                case measure => simp [intOf]; omega
              · have HFN : Hid (fo = false) := Lib.hid (by rw [HFF.out, HNZ.out k hk1 hlt hy])
                have hyb : (((byteAt b k : Nat) : Int) != 0) = true := by rw [bne_iff_ne]; omega
                clear hy
                generalize byteAt b k = y at *
                go_wp2
                exact bodyPost_ret (v := .tuple #[pv 0 0 ByteArray.empty, .int .i64 4]) (by simp [results, Tryd.results32, go_sem, pv, x0, x1, x2]; rfl) rfl ⟨by rw [HV.out, if_pos HS.out, HFN.out]; rfl, HBX.out⟩
            · obtain rfl : k = 252 := by omega
              have HFN : Hid (fo = true) := Lib.hid (by rw [HFF.out, HZ.out HJ.out])
              clear hX x0 x1 x2 HBX X
              obtain ⟨X, hX⟩ : ∃ X, ((w6.setCell ⟨w.heap.size, 0, none⟩ (.int .i64 k0)).setCell ⟨w.heap.size, 1, none⟩ (.int .i64 nx)).setCell ⟨w.heap.size, 2, none⟩ (.string (b.extract 11 (11 + n))) = X := ⟨_, rfl⟩
              obtain ⟨x0, x1, x2⟩ : X.cell? ⟨w.heap.size, 0, none⟩ = some (.int .i64 k0) ∧ X.cell? ⟨w.heap.size, 1, none⟩ = some (.int .i64 nx) ∧ X.cell? ⟨w.heap.size, 2, none⟩ = some (.string (b.extract 11 (11 + n))) := by rw [← hX]; exact cells3 (v0 := .int .i64 k0) (v1 := .int .i64 nx) (v2 := .string (b.extract 11 (11 + n))) d0 d1 d2
              have HBX : Hid (Below w.heap.size w X) := Lib.hid (by rw [← hX]; exact ((HB5.out.setCell (p := ⟨w.heap.size, 0, none⟩) (Nat.le_refl _) _).setCell (p := ⟨w.heap.size, 1, none⟩) (Nat.le_refl _) _).setCell (p := ⟨w.heap.size, 2, none⟩) (Nat.le_refl _) _)
              go_wp2
              exact bodyPost_ret (v := .tuple #[pv (k0 : Int) (nx : Int) (b.extract 11 (11 + n)), .int .i64 0]) (by simp [results, Tryd.results32, go_sem, pv, x0, x1, x2]) rfl ⟨by rw [HV.out, if_pos HS.out, if_pos HFN.out], HBX.out⟩
    · have ho2 : ((own : Int) != id) = true := by rw [bne_iff_ne]; exact ho
      have HFF : Hid (fo = false) := Lib.hid (by rw [HFO.out, decide_eq_false ho]; simp)
      clear ho
      go_wp2
      exact bodyPost_ret (v := .tuple #[pv 0 0 ByteArray.empty, .int .i64 4]) (by simp [results, Tryd.results32, go_sem, pv, x0, x1, x2]; rfl) rfl ⟨by rw [HV.out, if_pos HS.out, HFF.out]; rfl, HBX.out⟩
  · obtain rfl : qb = false := Bool.eq_false_iff.2 (fun e => hs (HNB.out.1 e))
    have HS := Lib.hid hs
    clear hs
    go_wp2
    exact bodyPost_ret (v := .tuple #[pv 0 0 ByteArray.empty, .int .i64 6]) (by simp [results, Tryd.results32, go_sem, pv, x0, x1, x2]; rfl) rfl ⟨by rw [HV.out, if_neg HS.out], HBX.out⟩
end Go.Proofs.YtpoiopjggmhnjaaDoor
