/- arboretumlaw27.NetPlays: the walk. (Printed by gen-nplay.py.) -/
import Derived.Test.YthdpajgnigilhaaNPRd
import Derived.Test.YthdpajgnigilhaaNPLs
namespace Go.Proofs.Ythdpajgnigilhaa
open Go.RowKit

set_option maxHeartbeats 40000000 in
set_option maxRecDepth 100000 in
theorem nplays_go (z : Bool) (p : Option Addr) (n c : Nat) (os : List NtOp) (w : World) (h : RdG noc w w.heap.size p n os) (hok : ∀ i, i < n → nok w (nopAt os i)) (hn : n ≤ 150) : Calls Try.prog 6 #[.bool z, .slice p n c] w fun e w' => e = .returned (.bool true) ∧ Below w.heap.size w w' := by
  have HA := Lib.hid (fun w => alive_true w)
  have H2 := Lib.hid h
  have HOK := Lib.hid hok
  clear h hok
  go_enter Try.func6, Try.ntmps6
  go_wp2_with fail
  refine (nt_new _).mono ?_
  rintro e w1 ⟨rfl, hN1, hb1⟩
  have hs1 := hb1.size
  have hlt1 : w.heap.size < w1.heap.size := hN1.lt _ rfl
  have HN2 := Lib.hid (hN1.keep ((Fr.refl (fun _ => False) w1).alloc (.cells #[.slice none 0 0, .slice none 0 0] 45)) (fun _ _ h => h) (fun _ _ h => h))
  have HR2 := Lib.hid (rn_zero w.heap.size w1 hs1)
  have HB2 : Hid (Below w.heap.size w (w1.alloc (.cells #[.slice none 0 0, .slice none 0 0] 45))) := Lib.hid (hb1.alloc hs1 _)
  clear hN1 hb1
  go_upto_if 34 with fail
  go_cut [5] (fun s5 wx => ∃ nb : Nat, s5 = .pointer (some ⟨nb, 0, none⟩) ∧ Hid (NPR w wx nb w1.heap.size (fun _ => False) 0 wx))
  case first =>
    cases z
    · go_wp2
      go_meet
      case rel => exact ⟨_, rfl, Lib.hid (np_start HN2.out HB2.out HR2.out (fun e => by have : w1.heap.size = w.heap.size := e; omega) hs1)⟩
    · go_wp2
      go_meet
      case rel =>
        refine ⟨_, rfl, Lib.hid (np_start (F := fun k => k = w1.heap.size + 1) (by have e := nt_zero w.heap.size (w1.alloc (.cells #[.slice none 0 0, .slice none 0 0] 45)) (by simp; omega); simp only [World.size_alloc] at e; exact e) (HB2.out.alloc (by simp; omega) _) (HR2.out.below ((Below.refl _ _).alloc (Nat.le_refl _) _)) (fun e => by have : w1.heap.size = w1.heap.size + 1 := e; omega) hs1)⟩
  case rest =>
    obtain ⟨Wb, hWb⟩ : ∃ Wb, Wb = wc := ⟨_, rfl⟩
    subst hWb
    obtain ⟨nb, rfl, HST⟩ := hcut
    clear HN2 HR2 HB2
    generalize w1.heap.size = rb at *
    clear hs1 hlt1
    go_wp2
    go_loopg [7] n (fun gk iv wr => ∃ i : Nat, gk = n - i ∧ i ≤ n ∧ iv = .int .i64 i ∧ Hid (NPR w wr nb rb (fun _ => False) i wr))
    case atStart => exact ⟨0, by omega, Nat.zero_le _, rfl, HST⟩
    case round =>
      clear HST
      obtain ⟨i, hgk, hi, rfl, hI⟩ := hrel
      subst hgk
      obtain ⟨wo, hwo⟩ : ∃ wo, wo = wr := ⟨_, rfl⟩
      subst hwo
      obtain ⟨S, C, hI⟩ := hI.out
      have HI := Lib.hid hI
      have HBO := Lib.hid hI.bel
      have hsz := hI.bel.size
      clear hI
      by_cases hlt : i < n
      · have hltI : (i : Int) < (n : Int) := by omega
        have d00 : decide ((i : Int) < (n : Int)) = true := decide_eq_true (by omega)
        go_upto_block 1 with fail
        refine nround (ci := _) (by kernel_rfl) H2 HOK hn hlt HI ?_ ?_
        · intro _ _ _ _ _ _ _ _ _ _ _ _ _ _ _ _ _ _ _ _ _ _ _ _ _ _ _ _ _ _ _ _ _ _ _ _ _ _ _ _ _ _ _ _ _ _ _ _ _ _ _ _ _ _ _ _ _ _ _ _ _ _ _ _ _ _ _ _ _ _ _ _ _ _ _ _ _ _ _ _ _ _ _ _ _ _ _ _ _ _ _ _ _ _ _ _ _ _ _ _ _ _ _ _ _ _ _ _ _ _ _ _ _ _ _ _ _ _ _ _ _ _ _ _ _ _ _ _ _ _ _ _ _ _ _ _ _ _ _ _ _ _ _ _ _ _ _ _ _ _ _ _ _ _ _ _ _ _ _ _ _ _ _ _ _ _ _ _ _ _ _ _ _ _ _ _ _ _ _ _ _ _ _ _ _ _ _ _ _ _ _ _ _ _ _ _ _ _ _ _ _ _ _ _ _ _ _ _ _ _ _ _ _ _ _ _ _ _ _ _ _ _ _ _ _ _ _ _ _ _ _ _ _ _ _ _ _ _ _ _ _ _ _ _ _ _ _ _ _ _ _ wx HB
          go_wp2
          go_ret
          exact ⟨rfl, HB.out⟩
        · intro _ _ _ _ _ _ _ _ _ _ _ _ _ _ _ _ _ _ _ _ _ _ _ _ _ _ _ _ _ _ _ _ _ _ _ _ _ _ _ _ _ _ _ _ _ _ _ _ _ _ _ _ _ _ _ _ _ _ _ _ _ _ _ _ _ _ _ _ _ _ _ _ _ _ _ _ _ _ _ _ _ _ _ _ _ _ _ _ _ _ _ _ _ _ _ _ _ _ _ _ _ _ _ _ _ _ _ _ _ _ _ _ _ _ _ _ _ _ _ _ _ _ _ _ _ _ _ _ _ _ _ _ _ _ _ _ _ _ _ _ _ _ _ _ _ _ _ _ _ _ _ _ _ _ _ _ _ _ _ _ _ _ _ _ _ _ _ _ _ _ _ _ _ _ _ _ _ _ _ _ _ _ _ _ _ _ _ _ _ _ _ _ _ _ _ _ _ _ _ _ _ _ _ _ _ _ _ _ _ _ _ _ _ _ _ _ _ _ _ _ _ _ _ _ _ _ _ _ _ _ _ _ _ _ _ _ _ _ _ _ _ _ _ _ _ _ _ _ _ _ _ _ wx HN
          go_wp2
          go_roundg (n - (i + 1))
          case measure => omega
          case rel => exact ⟨i + 1, rfl, by omega, by go_num, HN⟩
      · obtain rfl : i = n := by omega
        have d00 : decide ((i : Int) < (i : Int)) = false := decide_eq_false (by omega)
        have hls := HI.out.ls
        go_upto_block 5 with fail
        refine nlast (c := _) (by kernel_rfl) HI hls ?_
        intro _ _ _ _ _ _ _ _ _ _ _ _ _ _ _ _ _ _ _ _ _ _ _ _ _ _ _ _ _ _ _ _ _ _ wx HB
        go_wp2_with fail
        with_reducible refine (HA.out _).mono ?_
        rintro e w3 ⟨rfl, hb3⟩
        have HB3 : Hid (Below w.heap.size w w3) := Lib.hid (HB.out.trans (hb3.mono HB.out.size))
        clear hb3
        go_wp2
        go_ret
        exact ⟨rfl, HB3.out⟩
end Go.Proofs.Ythdpajgnigilhaa
