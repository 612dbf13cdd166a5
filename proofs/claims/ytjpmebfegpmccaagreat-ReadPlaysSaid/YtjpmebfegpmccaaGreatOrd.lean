/- Contracts of cmp.isNaN, cmp.Compare and cmp.Or at int: what they answer; the world stays, but for draws. -/
import Derived.Test.YtjpmebfegpmccaaGreatRows
import Derived.WalkKit
import Derived.WalkSpells
import Derived.WalkLawsBesides
import Derived.Deep.QuietTactic
import Derived.BigQuiet
import Derived.Lib.Hide
namespace Go.Proofs.YtjpmebfegpmccaaGreat
open Go.RowKit

theorem ret_int {k : IntKind} {a b : Int} (h : a = b) : Ending.returned (.int k a) = .returned (.int k b) := by rw [h]

/-- cmp.Compare on Go's ints. -/
def cmpI (a b : Int) : Int := if a < b then -1 else if b < a then 1 else 0

theorem isNaN_int (a : Int) (w : World) :
    Calls Tryz.prog 124 #[.int .i64 a] w fun e w' => e = .returned (.bool false) ∧ w = w' := by
  have hc : (a != a) = false := by simp
  go_enter Tryz.func124, Tryz.ntmps124
  go_wp2
  go_ret
  exact ⟨by simp, rfl⟩

theorem compare_int (a b : Int) (w : World) :
    Calls Tryz.prog 123 #[.int .i64 a, .int .i64 b] w fun e w' => e = .returned (.int .i64 (cmpI a b)) ∧ w = w' := by
  by_cases h : a < b
  · have he : cmpI a b = -1 := by simp [cmpI, h]
    rw [he]; clear he
    go_enter Tryz.func123, Tryz.ntmps123
    go_wp2_with (go_at_call 124; refine (isNaN_int _ _).mono ?_; rintro e w' ⟨rfl, rfl⟩)
    go_ret
    exact ⟨rfl, rfl⟩
  · by_cases h' : b < a
    · have he : cmpI a b = 1 := by simp [cmpI, h, h']
      rw [he]; clear he
      go_enter Tryz.func123, Tryz.ntmps123
      go_wp2_with (go_at_call 124; refine (isNaN_int _ _).mono ?_; rintro e w' ⟨rfl, rfl⟩)
      go_ret
      exact ⟨rfl, rfl⟩
    · have he : cmpI a b = 0 := by simp [cmpI, h, h']
      rw [he]; clear he
      go_enter Tryz.func123, Tryz.ntmps123
      go_wp2_with (go_at_call 124; refine (isNaN_int _ _).mono ?_; rintro e w' ⟨rfl, rfl⟩)
      go_ret
      exact ⟨rfl, rfl⟩

/-- cmp.Or: the first one that is not 0. -/
def orI : List Int → Int
  | [] => 0
  | x :: l => if x = 0 then orI l else x

theorem orI_drop {xs : List Int} {k : Nat} (hk : k < xs.length) : orI (xs.drop k) = if xs.getD k 0 = 0 then orI (xs.drop (k + 1)) else xs.getD k 0 := by
  rw [List.drop_eq_getElem_cons hk]
  simp [orI, List.getD_eq_getElem?_getD, List.getElem?_eq_getElem hk]

theorem or_int (b off : Nat) (xs : List Int) (cap : Nat) (w : World) (hl : xs.length ≤ 1000) (hc : ∀ i, i < xs.length → w.cell? ⟨b, off + i, none⟩ = some (.int .i64 (xs.getD i 0))) :
    Calls Tryz.prog 122 #[.slice (some ⟨b, off, none⟩) xs.length cap] w fun e w' => e = .returned (.int .i64 (orI xs)) ∧ w = w' := by
  have HC := Lib.hid hc; clear hc
  go_enter Tryz.func122, Tryz.ntmps122
  go_wp2
  go_loop [2, 5, 8] (fun _ _ i => ∃ k : Nat, k ≤ xs.length ∧ i = .int .i64 k ∧ orI (xs.drop k) = orI xs) (fun _ _ i => xs.length - (intOf i).toNat)
  case atStart => exact ⟨0, Nat.zero_le _, rfl, by simp⟩
  case round =>
    obtain ⟨k, hk, rfl, he⟩ := hrel
    have HE := Lib.hid he; clear he
    by_cases hlt : k < xs.length
    · have hcell := HC.out k hlt
      have hd := Lib.hid (orI_drop hlt)
      by_cases hz : xs.getD k 0 = 0
      · have hb : (xs.getD k 0 != 0) = false := bne_eq_false_iff_eq.2 hz
        have HZ := Lib.hid hz; clear hz
        generalize xs.getD k 0 = x at *
        go_wp2
        go_round
        case rel => exact ⟨k + 1, by omega, by go_num, by rw [← HE.out, hd.out, if_pos HZ.out]⟩
        case measure => simp [intOf]; omega
      · have hb : (xs.getD k 0 != 0) = true := bne_iff_ne.2 hz
        have HZ := Lib.hid hz; clear hz
        generalize xs.getD k 0 = x at *
        go_wp2
        go_ret
        exact ⟨ret_int (by rw [← HE.out, hd.out, if_neg HZ.out]), rfl⟩
    · go_wp2
      go_ret
      exact ⟨ret_int (by rw [← HE.out, List.drop_of_length_le (by omega)]; rfl), rfl⟩
end Go.Proofs.YtjpmebfegpmccaaGreat
