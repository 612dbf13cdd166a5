/- page.Open. -/
import Derived.Test.YtpoiopjggmhnjaaDoorSeal
import Derived.Deep.RegionHeld3
import Derived.Deep.DrawnRows
import Derived.Shelf.Strings.Trim
namespace Go.Proofs.YtpoiopjggmhnjaaDoor
open Go.RowKit
attribute [local go_sem ↓] Go.wp_at_zero Go.wp_at_succ

theorem dropWhile_none {α : Type} (p : α → Bool) (l : List α) : l.dropWhile p = [] ↔ ∀ x ∈ l, p x = true := by
  induction l with
  | nil => simp
  | cons x l ih =>
    by_cases h : p x = true
    · rw [List.dropWhile_cons_of_pos h, ih]; simp [h]
    · rw [List.dropWhile_cons_of_neg h]; simp [h]
theorem dropWhile_head {α : Type} (p : α → Bool) (l : List α) (x : α) (r : List α) (h : l.dropWhile p = x :: r) : p x = false := by
  induction l with
  | nil => cases h
  | cons y l ih =>
    by_cases hy : p y = true
    · rw [List.dropWhile_cons_of_pos hy] at h; exact ih h
    · rw [List.dropWhile_cons_of_neg hy] at h
      injection h with h1 _
      subst h1
      simpa using hy

theorem trim_nil (l : List UInt8) : Lib.trimB l 0 = [] ↔ ∀ x ∈ l, x = 0 := by
  unfold Lib.trimB Lib.trimLeftB Lib.trimRightB
  rw [dropWhile_none]
  constructor
  · intro h
    have hr : l.reverse.dropWhile (· == 0) = [] := by
      cases hc : l.reverse.dropWhile (· == (0 : UInt8)) with
      | nil => rfl
      | cons x r =>
        have h1 := dropWhile_head _ _ _ _ hc
        have h2 := h x (by rw [hc]; simp)
        rw [h1] at h2
        cases h2
    rw [dropWhile_none] at hr
    intro x hx
    simpa using hr x (by simpa using hx)
  · intro h x hx
    have hr : l.reverse.dropWhile (· == 0) = [] := by
      rw [dropWhile_none]
      intro y hy
      simpa using h y (by simpa using hy)
    rw [hr] at hx
    cases hx

set_option maxRecDepth 100000 in
theorem clone_pg (s : ByteArray) (w : World) (hs : s.size ≤ 1000000) :
    Calls Tryd.prog 38 #[.string s] w fun e w' => e = .returned (.string s) ∧ Below w.heap.size w w' := by
  have HC := Lib.hid (Tryd.stringslite_Clone s w (by omega))
  go_enter Tryd.func38, Tryd.ntmps38
  go_wp2_with fail
  refine HC.out.mono ?_
  rintro e w' ⟨rfl, hb⟩
  go_wp2
  go_ret
  exact ⟨rfl, hb⟩

/-- A page's content, as a value. -/
def pv (kind next : Int) (body : ByteArray) : Value := .agg #[.int .i64 kind, .int .i64 next, .string body]

set_option maxHeartbeats 1000000 in
set_option maxRecDepth 100000 in
theorem page_open_short (id : Int) (b : ByteArray) (w : World) (h : b.size ≠ 256) :
    Calls Tryd.prog 30 #[.int .i64 id, .string b] w fun e w' => e = .returned (.tuple #[pv 0 0 ByteArray.empty, .int .i64 5]) ∧ Below w.heap.size w w' := by
  have h1 : ((b.size : Int) != 256) = true := by rw [bne_iff_ne]; omega
  clear h
  go_enter Tryd.func30, Tryd.ntmps30
  go_wp2
  exact bodyPost_ret (v := .tuple #[pv 0 0 ByteArray.empty, .int .i64 5]) (by simp [results, Tryd.results30, go_sem, pv]; rfl) rfl ⟨rfl, by repeat (first | exact Below.refl _ _ | refine Below.drew ?_ | refine Below.alloc ?_ (by simp) _ | refine Below.setCell ?_ (by simp) _)⟩

set_option maxHeartbeats 2000000 in
set_option maxRecDepth 100000 in
theorem page_open_sum (id : Int) (b : ByteArray) (w : World) (h : b.size = 256) (hc : unfixN b 252 4 ≠ crcS (b.extract 0 252)) :
    Calls Tryd.prog 30 #[.int .i64 id, .string b] w fun e w' => e = .returned (.tuple #[pv 0 0 ByteArray.empty, .int .i64 6]) ∧ Below w.heap.size w w' := by
  have h1 : ((b.size : Int) != 256) = false := by rw [h]; rfl
  have hle : b.size ≤ 256 := by omega
  have hge : 256 ≤ b.size := by omega
  have hgi : (252 : Int) ≤ (b.size : Int) := by omega
  have HG : Hid (∀ w, Calls Tryd.prog 55 #[.string b, .int .i64 252, .int .i64 4] w fun e w' => e = .returned (.int .i64 (unfixN b 252 4 : Nat)) ∧ w' = w) := Lib.hid (fun w => page_get b 252 4 w (by omega) (by omega) (by omega) (by omega))
  have hsx : (b.extract 0 252).size ≤ 1000000 := by rw [ByteArray.size_extract]; omega
  have HCR := Lib.hid (fun g c w hc => num_crc (b.extract 0 252) g c w hc hsx)
  have hne : (((unfixN b 252 4 : Nat) : Int) != ((crcS (b.extract 0 252) : Nat) : Int)) = true := by rw [bne_iff_ne]; omega
  clear h hc hsx
  generalize unfixN b 252 4 = u at *
  generalize crcS (b.extract 0 252) = v at *
  go_enter Tryd.func30, Tryd.ntmps30
  go_wp2_with fail
  go_region_held3 (fun _ => True) (first | trivial | go_keep)
    (first
      | (go_at_call 55; refine (HG.out _).mono ?_; rintro e w5 ⟨rfl, rfl⟩)
      | (go_at_call 51; refine (HCR.out _ _ _ (by simp)).mono ?_; rintro e w6 ⟨rfl, rfl⟩))
  all_goals go_wp2
  all_goals (exact bodyPost_ret (v := .tuple #[pv 0 0 ByteArray.empty, .int .i64 6]) (by simp [results, Tryd.results30, go_sem, pv]; rfl) rfl ⟨rfl, by repeat (first | exact Below.refl _ _ | refine Below.drew ?_ | refine Below.alloc ?_ (by simp) _ | refine Below.setCell ?_ (by simp) _)⟩)

/-- Is there a page in so many bytes, their sum being right? -/
def formOK (id : Int) (b : ByteArray) : Bool := decide ((unfixN b 1 4 : Int) = id) && !(byteAt b 0 == 0) && decide (unfixN b 9 2 ≤ 240) && (b.extract (11 + unfixN b 9 2) 252).data.toList.all (· == 0)

set_option maxHeartbeats 4000000 in
set_option maxRecDepth 100000 in
theorem page_open_form (id : Int) (b : ByteArray) (w : World) (h : b.size = 256) (hc : unfixN b 252 4 = crcS (b.extract 0 252)) (hf : formOK id b = false) :
    Calls Tryd.prog 30 #[.int .i64 id, .string b] w fun e w' => e = .returned (.tuple #[pv 0 0 ByteArray.empty, .int .i64 4]) ∧ Below w.heap.size w w' := by
  have h1 : ((b.size : Int) != 256) = false := by rw [h]; rfl
  have hle : b.size ≤ 256 := by omega
  have hge : 256 ≤ b.size := by omega
  have hgi : (252 : Int) ≤ (b.size : Int) := by omega
  have HG : Hid (∀ w, Calls Tryd.prog 55 #[.string b, .int .i64 252, .int .i64 4] w fun e w' => e = .returned (.int .i64 (unfixN b 252 4 : Nat)) ∧ w' = w) := Lib.hid (fun w => page_get b 252 4 w (by omega) (by omega) (by omega) (by omega))
  have HG9 : Hid (∀ w, Calls Tryd.prog 55 #[.string b, .int .i64 9, .int .i64 2] w fun e w' => e = .returned (.int .i64 (unfixN b 9 2 : Nat)) ∧ w' = w) := Lib.hid (fun w => page_get b 9 2 w (by omega) (by omega) (by omega) (by omega))
  have HG1 : Hid (∀ w, Calls Tryd.prog 55 #[.string b, .int .i64 1, .int .i64 4] w fun e w' => e = .returned (.int .i64 (unfixN b 1 4 : Nat)) ∧ w' = w) := Lib.hid (fun w => page_get b 1 4 w (by omega) (by omega) (by omega) (by omega))
  have hsx : (b.extract 0 252).size ≤ 1000000 := by rw [ByteArray.size_extract]; omega
  have HCR := Lib.hid (fun g c w hc => num_crc (b.extract 0 252) g c w hc hsx)
  have hb0 := byteAt_get b 0 (Nat.lt_of_lt_of_le (by decide : 0 < 256) hge)
  have hn16 := unfixN_lt b 9 2
  have hne : (((unfixN b 252 4 : Nat) : Int) != ((crcS (b.extract 0 252) : Nat) : Int)) = false := by rw [hc]; simp
  unfold formOK at hf
  clear h hc hsx
  generalize unfixN b 252 4 = u at *
  generalize crcS (b.extract 0 252) = v at *
  generalize unfixN b 9 2 = n at *
  generalize unfixN b 1 4 = own at *
  generalize byteAt b 0 = k0 at *
  have hn : n < 65536 := by omega
  clear hn16
  by_cases ho : (own : Int) = id
  · have ho2 : ((own : Int) != id) = false := by rw [ho]; simp
    by_cases hk : k0 = 0
    · have hk2 : ((k0 : Int) == 0) = true := by rw [hk]; rfl
      clear hf ho hk
      go_enter Tryd.func30, Tryd.ntmps30
      go_wp2_with fail
      go_region_held3 (fun _ => True) (first | trivial | go_keep)
        (first
          | (go_at_call 55; refine (HG.out _).mono ?_; rintro e w5 ⟨rfl, rfl⟩)
          | (go_at_call 51; refine (HCR.out _ _ _ (by simp)).mono ?_; rintro e w6 ⟨rfl, rfl⟩))
      all_goals
        go_wp2_with fail
        refine (HG9.out _).mono ?_
        rintro e w7 ⟨rfl, rfl⟩
        go_wp2_with fail
        refine (HG1.out _).mono ?_
        rintro e w7 ⟨rfl, rfl⟩
        go_wp2
        exact bodyPost_ret (v := .tuple #[pv 0 0 ByteArray.empty, .int .i64 4]) (by simp [results, Tryd.results30, go_sem, pv]; rfl) rfl ⟨rfl, by repeat (first | exact Below.refl _ _ | refine Below.drew ?_ | refine Below.alloc ?_ (by simp) _ | refine Below.setCell ?_ (by simp) _)⟩
    · have hk2 : ((k0 : Int) == 0) = false := by simp; omega
      by_cases hn240 : 240 < n
      · clear hf ho hk
        go_enter Tryd.func30, Tryd.ntmps30
        go_wp2_with fail
        go_region_held3 (fun _ => True) (first | trivial | go_keep)
          (first
            | (go_at_call 55; refine (HG.out _).mono ?_; rintro e w5 ⟨rfl, rfl⟩)
            | (go_at_call 51; refine (HCR.out _ _ _ (by simp)).mono ?_; rintro e w6 ⟨rfl, rfl⟩))
        all_goals
          go_wp2_with fail
          refine (HG9.out _).mono ?_
          rintro e w7 ⟨rfl, rfl⟩
          go_wp2_with fail
          refine (HG1.out _).mono ?_
          rintro e w7 ⟨rfl, rfl⟩
          go_wp2
          exact bodyPost_ret (v := .tuple #[pv 0 0 ByteArray.empty, .int .i64 4]) (by simp [results, Tryd.results30, go_sem, pv]; rfl) rfl ⟨rfl, by repeat (first | exact Below.refl _ _ | refine Below.drew ?_ | refine Below.alloc ?_ (by simp) _ | refine Below.setCell ?_ (by simp) _)⟩
      · have hall : ¬ ∀ x ∈ (b.extract (11 + n) 252).data.toList, x = 0 := by
          intro hh
          have h2 : (b.extract (11 + n) 252).data.toList.all (· == 0) = true := by rw [List.all_eq_true]; intro x hx; simpa using hh x hx
          rw [h2] at hf
          simp [ho, hk] at hf
          omega
        have htr : ¬ Lib.trimB (b.extract (11 + n) 252).data.toList 0 = [] := fun e => hall ((trim_nil _).1 e)
        have HTR : Hid (∀ w, Calls Tryd.prog 56 #[.string (b.extract (11 + n) 252), .string ⟨#[0]⟩] w fun e w' => e = .returned (.string ⟨(Lib.trimB (b.extract (11 + n) 252).data.toList 0).toArray⟩) ∧ (w' = w ∨ w' = w.drew)) := Lib.hid (fun w => Tryd.strings_Trim_one (b.extract (11 + n) 252) 0 (by decide) w (by rw [ByteArray.size_extract]; omega))
        clear hf ho hk hall
        have hte : (Lib.trimB (b.extract (11 + n) 252).data.toList 0).isEmpty = false := by simpa using htr
        clear htr
        generalize Lib.trimB (b.extract (11 + n) 252).data.toList 0 = tr at *
        go_enter Tryd.func30, Tryd.ntmps30
        go_wp2_with fail
        go_region_held3 (fun _ => True) (first | trivial | go_keep)
          (first
            | (go_at_call 55; refine (HG.out _).mono ?_; rintro e w5 ⟨rfl, rfl⟩)
            | (go_at_call 51; refine (HCR.out _ _ _ (by simp)).mono ?_; rintro e w6 ⟨rfl, rfl⟩))
        all_goals
          go_wp2_with fail
          refine (HG9.out _).mono ?_
          rintro e w7 ⟨rfl, rfl⟩
          go_wp2_with fail
          refine (HG1.out _).mono ?_
          rintro e w7 ⟨rfl, rfl⟩
          go_wp2_with fail
          refine (HTR.out _).mono ?_
          rintro e w7 ⟨rfl, hw⟩
          rcases hw with rfl | rfl
          all_goals go_wp2
          all_goals (exact bodyPost_ret (v := .tuple #[pv 0 0 ByteArray.empty, .int .i64 4]) (by simp [results, Tryd.results30, go_sem, pv]; rfl) rfl ⟨rfl, by repeat (first | exact Below.refl _ _ | refine Below.drew ?_ | refine Below.alloc ?_ (by simp) _ | refine Below.setCell ?_ (by simp) _)⟩)
  · have ho2 : ((own : Int) != id) = true := by rw [bne_iff_ne]; exact ho
    clear hf
    go_enter Tryd.func30, Tryd.ntmps30
    go_wp2_with fail
    go_region_held3 (fun _ => True) (first | trivial | go_keep)
      (first
        | (go_at_call 55; refine (HG.out _).mono ?_; rintro e w5 ⟨rfl, rfl⟩)
        | (go_at_call 51; refine (HCR.out _ _ _ (by simp)).mono ?_; rintro e w6 ⟨rfl, rfl⟩))
    all_goals
      go_wp2_with fail
      refine (HG9.out _).mono ?_
      rintro e w7 ⟨rfl, rfl⟩
      go_wp2_with fail
      refine (HG1.out _).mono ?_
      rintro e w7 ⟨rfl, rfl⟩
      go_wp2
      exact bodyPost_ret (v := .tuple #[pv 0 0 ByteArray.empty, .int .i64 4]) (by simp [results, Tryd.results30, go_sem, pv]; rfl) rfl ⟨rfl, by repeat (first | exact Below.refl _ _ | refine Below.drew ?_ | refine Below.alloc ?_ (by simp) _ | refine Below.setCell ?_ (by simp) _)⟩
end Go.Proofs.YtpoiopjggmhnjaaDoor
