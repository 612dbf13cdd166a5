/- Merged texts: POpen POpenK SealL PAlive. -/
import Derived.Test.YtlocadmiomglaaaGreatDoorB6
import Derived.Deep.RegionHeld3
import Derived.Deep.DrawnRows
import Derived.Shelf.Strings.Trim
/- page.Open. -/
namespace Go.Proofs.YtlocadmiomglaaaGreatDoor
open Go.RowKit
attribute [local go_sem ↓] Go.wp_at_zero Go.wp_at_succ

theorem dropWhile_none {α : Type} (p : α → Bool) (l : List α) : l.dropWhile p = [] ↔ ∀ x ∈ l, p x = true := by
  induction l with
  | nil => simp
  | cons x l ih =>
    by_cases h : p x = true
    · rw [List.dropWhile_cons_of_pos h, ih]; simp [h]
    · rw [List.dropWhile_cons_of_neg h]; simp [h]
theorem dropWhile_head {α : Type} (p : α → Bool) (l : List α) (x : α) (r : List α) (h : l.dropWhile p = x :: r) : p x = false := by
  induction l with
  | nil => cases h
  | cons y l ih =>
    by_cases hy : p y = true
    · rw [List.dropWhile_cons_of_pos hy] at h; exact ih h
    · rw [List.dropWhile_cons_of_neg hy] at h
      injection h with h1 _
      subst h1
      simpa using hy

theorem trim_nil (l : List UInt8) : Lib.trimB l 0 = [] ↔ ∀ x ∈ l, x = 0 := by
  unfold Lib.trimB Lib.trimLeftB Lib.trimRightB
  rw [dropWhile_none]
  constructor
  · intro h
    have hr : l.reverse.dropWhile (· == 0) = [] := by
      cases hc : l.reverse.dropWhile (· == (0 : UInt8)) with
      | nil => rfl
      | cons x r =>
        have h1 := dropWhile_head _ _ _ _ hc
        have h2 := h x (by rw [hc]; simp)
        rw [h1] at h2
        cases h2
    rw [dropWhile_none] at hr
    intro x hx
    simpa using hr x (by simpa using hx)
  · intro h x hx
    have hr : l.reverse.dropWhile (· == 0) = [] := by
      rw [dropWhile_none]
      intro y hy
      simpa using h y (by simpa using hy)
    rw [hr] at hx
    cases hx

set_option maxRecDepth 100000 in
theorem clone_pg (s : ByteArray) (w : World) (hs : s.size ≤ 1000000) :
    Calls Tryz.prog 34 #[.string s] w fun e w' => e = .returned (.string s) ∧ Below w.heap.size w w' := by
  have HC := Lib.hid (Tryz.stringslite_Clone s w (by omega))
  go_enter Tryz.func34, Tryz.ntmps34
  go_wp2_with fail
  refine HC.out.mono ?_
  rintro e w' ⟨rfl, hb⟩
  go_wp2
  go_ret
  exact ⟨rfl, hb⟩

/-- A page's content, as a value. -/
def pv (kind next : Int) (body : ByteArray) : Value := .agg #[.int .i64 kind, .int .i64 next, .string body]

set_option maxHeartbeats 1000000 in
set_option maxRecDepth 100000 in
theorem page_open_short (id : Int) (b : ByteArray) (w : World) (h : b.size ≠ 256) :
    Calls Tryz.prog 163 #[.int .i64 id, .string b] w fun e w' => e = .returned (.tuple #[pv 0 0 ByteArray.empty, .int .i64 5]) ∧ Below w.heap.size w w' := by
  have h1 : ((b.size : Int) != 256) = true := by rw [bne_iff_ne]; omega
  clear h
  go_enter Tryz.func163, Tryz.ntmps163
  go_wp2
  exact bodyPost_ret (v := .tuple #[pv 0 0 ByteArray.empty, .int .i64 5]) (by simp [results, Tryz.results163, go_sem, pv]; rfl) rfl ⟨rfl, by repeat (first | exact Below.refl _ _ | refine Below.drew ?_ | refine Below.alloc ?_ (by simp) _ | refine Below.setCell ?_ (by simp) _)⟩

set_option maxHeartbeats 2000000 in
set_option maxRecDepth 100000 in
theorem page_open_sum (id : Int) (b : ByteArray) (w : World) (h : b.size = 256) (hc : unfixN b 252 4 ≠ crcS (b.extract 0 252)) :
    Calls Tryz.prog 163 #[.int .i64 id, .string b] w fun e w' => e = .returned (.tuple #[pv 0 0 ByteArray.empty, .int .i64 6]) ∧ Below w.heap.size w w' := by
  have h1 : ((b.size : Int) != 256) = false := by rw [h]; rfl
  have hle : b.size ≤ 256 := by omega
  have hge : 256 ≤ b.size := by omega
  have hgi : (252 : Int) ≤ (b.size : Int) := by omega
  have HG : Hid (∀ w, Calls Tryz.prog 184 #[.string b, .int .i64 252, .int .i64 4] w fun e w' => e = .returned (.int .i64 (unfixN b 252 4 : Nat)) ∧ w' = w) := Lib.hid (fun w => page_get b 252 4 w (by omega) (by omega) (by omega) (by omega))
  have hsx : (b.extract 0 252).size ≤ 1000000 := by rw [ByteArray.size_extract]; omega
  have HCR := Lib.hid (fun g c w hc => num_crc (b.extract 0 252) g c w hc hsx)
  have hne : (((unfixN b 252 4 : Nat) : Int) != ((crcS (b.extract 0 252) : Nat) : Int)) = true := by rw [bne_iff_ne]; omega
  clear h hc hsx
  generalize unfixN b 252 4 = u at *
  generalize crcS (b.extract 0 252) = v at *
  go_enter Tryz.func163, Tryz.ntmps163
  go_wp2_with fail
  go_region_held3 (fun _ => True) (first | trivial | go_keep)
    (first
      | (go_at_call 184; refine (HG.out _).mono ?_; rintro e w5 ⟨rfl, rfl⟩)
      | (go_at_call 133; refine (HCR.out _ _ _ (by simp)).mono ?_; rintro e w6 ⟨rfl, rfl⟩))
  all_goals go_wp2
  all_goals (exact bodyPost_ret (v := .tuple #[pv 0 0 ByteArray.empty, .int .i64 6]) (by simp [results, Tryz.results163, go_sem, pv]; rfl) rfl ⟨rfl, by repeat (first | exact Below.refl _ _ | refine Below.drew ?_ | refine Below.alloc ?_ (by simp) _ | refine Below.setCell ?_ (by simp) _)⟩)

/-- Is there a page in so many bytes, their sum being right? -/
def formOK (id : Int) (b : ByteArray) : Bool := decide ((unfixN b 1 4 : Int) = id) && !(byteAt b 0 == 0) && decide (unfixN b 9 2 ≤ 240) && (b.extract (11 + unfixN b 9 2) 252).data.toList.all (· == 0)

set_option maxHeartbeats 4000000 in
set_option maxRecDepth 100000 in
theorem page_open_form (id : Int) (b : ByteArray) (w : World) (h : b.size = 256) (hc : unfixN b 252 4 = crcS (b.extract 0 252)) (hf : formOK id b = false) :
    Calls Tryz.prog 163 #[.int .i64 id, .string b] w fun e w' => e = .returned (.tuple #[pv 0 0 ByteArray.empty, .int .i64 4]) ∧ Below w.heap.size w w' := by
  have h1 : ((b.size : Int) != 256) = false := by rw [h]; rfl
  have hle : b.size ≤ 256 := by omega
  have hge : 256 ≤ b.size := by omega
  have hgi : (252 : Int) ≤ (b.size : Int) := by omega
  have HG : Hid (∀ w, Calls Tryz.prog 184 #[.string b, .int .i64 252, .int .i64 4] w fun e w' => e = .returned (.int .i64 (unfixN b 252 4 : Nat)) ∧ w' = w) := Lib.hid (fun w => page_get b 252 4 w (by omega) (by omega) (by omega) (by omega))
  have HG9 : Hid (∀ w, Calls Tryz.prog 184 #[.string b, .int .i64 9, .int .i64 2] w fun e w' => e = .returned (.int .i64 (unfixN b 9 2 : Nat)) ∧ w' = w) := Lib.hid (fun w => page_get b 9 2 w (by omega) (by omega) (by omega) (by omega))
  have HG1 : Hid (∀ w, Calls Tryz.prog 184 #[.string b, .int .i64 1, .int .i64 4] w fun e w' => e = .returned (.int .i64 (unfixN b 1 4 : Nat)) ∧ w' = w) := Lib.hid (fun w => page_get b 1 4 w (by omega) (by omega) (by omega) (by omega))
  have hsx : (b.extract 0 252).size ≤ 1000000 := by rw [ByteArray.size_extract]; omega
  have HCR := Lib.hid (fun g c w hc => num_crc (b.extract 0 252) g c w hc hsx)
  have hb0 := byteAt_get b 0 (Nat.lt_of_lt_of_le (by decide : 0 < 256) hge)
  have hn16 := unfixN_lt b 9 2
  have hne : (((unfixN b 252 4 : Nat) : Int) != ((crcS (b.extract 0 252) : Nat) : Int)) = false := by rw [hc]; simp
  unfold formOK at hf
  clear h hc hsx
  generalize unfixN b 252 4 = u at *
  generalize crcS (b.extract 0 252) = v at *
  generalize unfixN b 9 2 = n at *
  generalize unfixN b 1 4 = own at *
  generalize byteAt b 0 = k0 at *
  have hn : n < 65536 := by omega
  clear hn16
  by_cases ho : (own : Int) = id
  · have ho2 : ((own : Int) != id) = false := by rw [ho]; simp
    by_cases hk : k0 = 0
    · have hk2 : ((k0 : Int) == 0) = true := by rw [hk]; rfl
      clear hf ho hk
      go_enter Tryz.func163, Tryz.ntmps163
      go_wp2_with fail
      go_region_held3 (fun _ => True) (first | trivial | go_keep)
        (first
          | (go_at_call 184; refine (HG.out _).mono ?_; rintro e w5 ⟨rfl, rfl⟩)
          | (go_at_call 133; refine (HCR.out _ _ _ (by simp)).mono ?_; rintro e w6 ⟨rfl, rfl⟩))
      all_goals
        go_wp2_with fail
        refine (HG9.out _).mono ?_
        rintro e w7 ⟨rfl, rfl⟩
        go_wp2_with fail
        refine (HG1.out _).mono ?_
        rintro e w7 ⟨rfl, rfl⟩
        go_wp2
        exact bodyPost_ret (v := .tuple #[pv 0 0 ByteArray.empty, .int .i64 4]) (by simp [results, Tryz.results163, go_sem, pv]; rfl) rfl ⟨rfl, by repeat (first | exact Below.refl _ _ | refine Below.drew ?_ | refine Below.alloc ?_ (by simp) _ | refine Below.setCell ?_ (by simp) _)⟩
    · have hk2 : ((k0 : Int) == 0) = false := by simp; omega
      by_cases hn240 : 240 < n
      · clear hf ho hk
        go_enter Tryz.func163, Tryz.ntmps163
        go_wp2_with fail
        go_region_held3 (fun _ => True) (first | trivial | go_keep)
          (first
            | (go_at_call 184; refine (HG.out _).mono ?_; rintro e w5 ⟨rfl, rfl⟩)
            | (go_at_call 133; refine (HCR.out _ _ _ (by simp)).mono ?_; rintro e w6 ⟨rfl, rfl⟩))
        all_goals
          go_wp2_with fail
          refine (HG9.out _).mono ?_
          rintro e w7 ⟨rfl, rfl⟩
          go_wp2_with fail
          refine (HG1.out _).mono ?_
          rintro e w7 ⟨rfl, rfl⟩
          go_wp2
          exact bodyPost_ret (v := .tuple #[pv 0 0 ByteArray.empty, .int .i64 4]) (by simp [results, Tryz.results163, go_sem, pv]; rfl) rfl ⟨rfl, by repeat (first | exact Below.refl _ _ | refine Below.drew ?_ | refine Below.alloc ?_ (by simp) _ | refine Below.setCell ?_ (by simp) _)⟩
      · have hall : ¬ ∀ x ∈ (b.extract (11 + n) 252).data.toList, x = 0 := by
          intro hh
          have h2 : (b.extract (11 + n) 252).data.toList.all (· == 0) = true := by rw [List.all_eq_true]; intro x hx; simpa using hh x hx
          rw [h2] at hf
          simp [ho, hk] at hf
          omega
        have htr : ¬ Lib.trimB (b.extract (11 + n) 252).data.toList 0 = [] := fun e => hall ((trim_nil _).1 e)
        have HTR : Hid (∀ w, Calls Tryz.prog 185 #[.string (b.extract (11 + n) 252), .string ⟨#[0]⟩] w fun e w' => e = .returned (.string ⟨(Lib.trimB (b.extract (11 + n) 252).data.toList 0).toArray⟩) ∧ (w' = w ∨ w' = w.drew)) := Lib.hid (fun w => Tryz.strings_Trim_one (b.extract (11 + n) 252) 0 (by decide) w (by rw [ByteArray.size_extract]; omega))
        clear hf ho hk hall
        have hte : (Lib.trimB (b.extract (11 + n) 252).data.toList 0).isEmpty = false := by simpa using htr
        clear htr
        generalize Lib.trimB (b.extract (11 + n) 252).data.toList 0 = tr at *
        go_enter Tryz.func163, Tryz.ntmps163
        go_wp2_with fail
        go_region_held3 (fun _ => True) (first | trivial | go_keep)
          (first
            | (go_at_call 184; refine (HG.out _).mono ?_; rintro e w5 ⟨rfl, rfl⟩)
            | (go_at_call 133; refine (HCR.out _ _ _ (by simp)).mono ?_; rintro e w6 ⟨rfl, rfl⟩))
        all_goals
          go_wp2_with fail
          refine (HG9.out _).mono ?_
          rintro e w7 ⟨rfl, rfl⟩
          go_wp2_with fail
          refine (HG1.out _).mono ?_
          rintro e w7 ⟨rfl, rfl⟩
          go_wp2_with fail
          refine (HTR.out _).mono ?_
          rintro e w7 ⟨rfl, hw⟩
          rcases hw with rfl | rfl
          all_goals go_wp2
          all_goals (exact bodyPost_ret (v := .tuple #[pv 0 0 ByteArray.empty, .int .i64 4]) (by simp [results, Tryz.results163, go_sem, pv]; rfl) rfl ⟨rfl, by repeat (first | exact Below.refl _ _ | refine Below.drew ?_ | refine Below.alloc ?_ (by simp) _ | refine Below.setCell ?_ (by simp) _)⟩)
  · have ho2 : ((own : Int) != id) = true := by rw [bne_iff_ne]; exact ho
    clear hf
    go_enter Tryz.func163, Tryz.ntmps163
    go_wp2_with fail
    go_region_held3 (fun _ => True) (first | trivial | go_keep)
      (first
        | (go_at_call 184; refine (HG.out _).mono ?_; rintro e w5 ⟨rfl, rfl⟩)
        | (go_at_call 133; refine (HCR.out _ _ _ (by simp)).mono ?_; rintro e w6 ⟨rfl, rfl⟩))
    all_goals
      go_wp2_with fail
      refine (HG9.out _).mono ?_
      rintro e w7 ⟨rfl, rfl⟩
      go_wp2_with fail
      refine (HG1.out _).mono ?_
      rintro e w7 ⟨rfl, rfl⟩
      go_wp2
      exact bodyPost_ret (v := .tuple #[pv 0 0 ByteArray.empty, .int .i64 4]) (by simp [results, Tryz.results163, go_sem, pv]; rfl) rfl ⟨rfl, by repeat (first | exact Below.refl _ _ | refine Below.drew ?_ | refine Below.alloc ?_ (by simp) _ | refine Below.setCell ?_ (by simp) _)⟩
end Go.Proofs.YtlocadmiomglaaaGreatDoor

/- page.Open, of a page that is whole. -/
namespace Go.Proofs.YtlocadmiomglaaaGreatDoor
open Go.RowKit
attribute [local go_sem ↓] Go.wp_at_zero Go.wp_at_succ

theorem bkeep {w w' : World} {p : Addr} {v : Value} (hb : Below w.heap.size w w') (h : w.cell? p = some v) : w'.cell? p = some v := (hb.cell (cell_lt h)).trans h
theorem bkeepF {w w' : World} {p : Addr} {v : Value} (hb : Below w.heap.size w w') (h : w.cell? p = some v) : w'.frozen? p = w.frozen? p := hb.frozen (cell_lt h)

theorem cells3 {w : World} {b : Nat} {u0 u1 u2 v0 v1 v2 : Value} (d0 : w.cell? ⟨b, 0, none⟩ = some u0) (d1 : w.cell? ⟨b, 1, none⟩ = some u1) (d2 : w.cell? ⟨b, 2, none⟩ = some u2) :
    (((w.setCell ⟨b, 0, none⟩ v0).setCell ⟨b, 1, none⟩ v1).setCell ⟨b, 2, none⟩ v2).cell? ⟨b, 0, none⟩ = some v0 ∧ (((w.setCell ⟨b, 0, none⟩ v0).setCell ⟨b, 1, none⟩ v1).setCell ⟨b, 2, none⟩ v2).cell? ⟨b, 1, none⟩ = some v1 ∧ (((w.setCell ⟨b, 0, none⟩ v0).setCell ⟨b, 1, none⟩ v1).setCell ⟨b, 2, none⟩ v2).cell? ⟨b, 2, none⟩ = some v2 := by
  have ne : ∀ (w : World) (i j : Nat) (v : Value), i ≠ j → (w.setCell ⟨b, i, none⟩ v).cell? ⟨b, j, none⟩ = w.cell? ⟨b, j, none⟩ := fun w i j v h => World.cell?_setCell_other _ _ _ _ (by intro e; injection e with _ e _; omega)
  refine ⟨?_, ?_, ?_⟩
  · rw [ne _ 2 0 _ (by omega), ne _ 1 0 _ (by omega)]; exact cell_set_same _ _ _ _ d0
  · rw [ne _ 2 1 _ (by omega)]; exact cell_set_same _ _ _ u1 (by rw [ne _ 0 1 _ (by omega)]; exact d1)
  · exact cell_set_same _ _ _ u2 (by rw [ne _ 1 2 _ (by omega), ne _ 0 2 _ (by omega)]; exact d2)

set_option maxHeartbeats 4000000 in
set_option maxRecDepth 100000 in
theorem page_open_ok (id : Int) (b : ByteArray) (w : World) (h : b.size = 256) (hc : unfixN b 252 4 = crcS (b.extract 0 252)) (hf : formOK id b = true) :
    Calls Tryz.prog 163 #[.int .i64 id, .string b] w fun e w' => e = .returned (.tuple #[pv (byteAt b 0 : Nat) (unfixN b 5 4 : Nat) (b.extract 11 (11 + unfixN b 9 2)), .int .i64 0]) ∧ Below w.heap.size w w' := by
  have h1 : ((b.size : Int) != 256) = false := by rw [h]; rfl
  have hle : b.size ≤ 256 := by omega
  have hge : 256 ≤ b.size := by omega
  have hgi : (252 : Int) ≤ (b.size : Int) := by omega
  have HG : Hid (∀ w, Calls Tryz.prog 184 #[.string b, .int .i64 252, .int .i64 4] w fun e w' => e = .returned (.int .i64 (unfixN b 252 4 : Nat)) ∧ w' = w) := Lib.hid (fun w => page_get b 252 4 w (by omega) (by omega) (by omega) (by omega))
  have HG9 : Hid (∀ w, Calls Tryz.prog 184 #[.string b, .int .i64 9, .int .i64 2] w fun e w' => e = .returned (.int .i64 (unfixN b 9 2 : Nat)) ∧ w' = w) := Lib.hid (fun w => page_get b 9 2 w (by omega) (by omega) (by omega) (by omega))
  have HG1 : Hid (∀ w, Calls Tryz.prog 184 #[.string b, .int .i64 1, .int .i64 4] w fun e w' => e = .returned (.int .i64 (unfixN b 1 4 : Nat)) ∧ w' = w) := Lib.hid (fun w => page_get b 1 4 w (by omega) (by omega) (by omega) (by omega))
  have HG5 : Hid (∀ w, Calls Tryz.prog 184 #[.string b, .int .i64 5, .int .i64 4] w fun e w' => e = .returned (.int .i64 (unfixN b 5 4 : Nat)) ∧ w' = w) := Lib.hid (fun w => page_get b 5 4 w (by omega) (by omega) (by omega) (by omega))
  have hsx : (b.extract 0 252).size ≤ 1000000 := by rw [ByteArray.size_extract]; omega
  have HCR := Lib.hid (fun g c w hc => num_crc (b.extract 0 252) g c w hc hsx)
  have hb0 := byteAt_get b 0 (Nat.lt_of_lt_of_le (by decide : 0 < 256) hge)
  have hn16 := unfixN_lt b 9 2
  have hk8 := byteAt_lt b 0
  have hne : (((unfixN b 252 4 : Nat) : Int) != ((crcS (b.extract 0 252) : Nat) : Int)) = false := by rw [hc]; simp
  unfold formOK at hf
  simp only [Bool.and_eq_true, decide_eq_true_eq, List.all_eq_true, Bool.not_eq_true', beq_eq_false_iff_ne, beq_iff_eq] at hf
  obtain ⟨⟨⟨hf1, hf2⟩, hf3⟩, hf4⟩ := hf
  have htr : Lib.trimB (b.extract (11 + unfixN b 9 2) 252).data.toList 0 = [] := (trim_nil _).2 hf4
  clear h hc hsx hf4
  generalize unfixN b 252 4 = u at *
  generalize crcS (b.extract 0 252) = v at *
  generalize unfixN b 9 2 = n at *
  generalize unfixN b 1 4 = own at *
  generalize unfixN b 5 4 = nx at *
  generalize byteAt b 0 = k0 at *
  have hn : n < 65536 := by omega
  clear hn16
  have ho2 : ((own : Int) != id) = false := by rw [hf1]; simp
  have hk2 : ((k0 : Int) == 0) = false := by simp; omega
  have HTR : Hid (∀ w, Calls Tryz.prog 185 #[.string (b.extract (11 + n) 252), .string ⟨#[0]⟩] w fun e w' => e = .returned (.string ⟨#[]⟩) ∧ (w' = w ∨ w' = w.drew)) := Lib.hid (fun w => by
    have e := Tryz.strings_Trim_one (b.extract (11 + n) 252) 0 (by decide) w (by rw [ByteArray.size_extract]; omega)
    rw [htr] at e
    exact e)
  have HCN : Hid (∀ w, Calls Tryz.prog 34 #[.string (b.extract 11 (11 + n))] w fun e w' => e = .returned (.string (b.extract 11 (11 + n))) ∧ Below w.heap.size w w') := Lib.hid (fun w => clone_pg _ w (by rw [ByteArray.size_extract]; omega))
  have hn1 : (11 : Int) ≤ 11 + (n : Int) := by omega
  have hn2 : (11 : Int) + (n : Int) ≤ (b.size : Int) := by omega
  have hn3 : IntKind.i64.wrap (11 + (n : Int)) = 11 + (n : Int) := IntWalk.i64_in _ ⟨by omega, by omega⟩
  have HN3 := Lib.hid hn3
  clear hf1 hf2 htr hn3
  go_enter Tryz.func163, Tryz.ntmps163
  go_wp2_with fail
  go_region_held3 (fun _ => True) (first | trivial | go_keep)
    (first
      | (go_at_call 184; refine (HG.out _).mono ?_; rintro e w5 ⟨rfl, rfl⟩)
      | (go_at_call 133; refine (HCR.out _ _ _ (by simp)).mono ?_; rintro e w6 ⟨rfl, rfl⟩))
  all_goals
    go_wp2_with fail
    refine (HG9.out _).mono ?_
    rintro e w7 ⟨rfl, rfl⟩
    go_wp2_with fail
    refine (HG1.out _).mono ?_
    rintro e w7 ⟨rfl, rfl⟩
    go_wp2_with fail
    refine (HTR.out _).mono ?_
    rintro e w7 ⟨rfl, hw⟩
    have c0 : w7.cell? ⟨w.heap.size, 0, none⟩ = some (.int .i64 0) := by rcases hw with rfl | rfl <;> go_simp
    have c1 : w7.cell? ⟨w.heap.size, 1, none⟩ = some (.int .i64 0) := by clear c0; rcases hw with rfl | rfl <;> go_simp
    have c2 : w7.cell? ⟨w.heap.size, 2, none⟩ = some (.string ByteArray.empty) := by clear c0 c1; rcases hw with rfl | rfl <;> (go_simp; rfl)
    have f0 : ∀ k, w7.frozen? ⟨w.heap.size, k, none⟩ = false := by clear c0 c1 c2; intro k; rcases hw with rfl | rfl <;> go_simp
    have HB7 : Hid (Below w.heap.size w w7) := Lib.hid (by rcases hw with rfl | rfl <;> repeat (first | exact Below.refl _ _ | refine Below.drew ?_ | refine Below.alloc ?_ (by simp) _))
    clear hw
    have HF0 := Lib.hid f0
    clear f0
    go_wp2_with fail
    have hn4 := HN3.out
    have hwk : IntKind.i64.wrap (k0 : Int) = (k0 : Int) := IntWalk.i64_in _ ⟨by omega, by omega⟩
    go_region_held3 (fun _ => True) (first | trivial | go_keep)
      (first
        | (go_at_call 184; refine (HG5.out _).mono ?_; rintro e w8 ⟨rfl, rfl⟩)
        | (go_at_call 34; refine (HCN.out _).mono ?_; rintro e w9 ⟨rfl, hb9⟩; have d0 : w9.cell? ⟨w.heap.size, 0, none⟩ = some (.int .i64 0) := bkeep hb9 c0; have d1 : w9.cell? ⟨w.heap.size, 1, none⟩ = some (.int .i64 0) := bkeep hb9 c1; have d2 : w9.cell? ⟨w.heap.size, 2, none⟩ = some (.string ByteArray.empty) := bkeep hb9 c2; have e0 : w9.frozen? ⟨w.heap.size, 0, none⟩ = false := (bkeepF hb9 c0).trans (HF0.out 0); have e1 : w9.frozen? ⟨w.heap.size, 1, none⟩ = false := (bkeepF hb9 c1).trans (HF0.out 1); have e2 : w9.frozen? ⟨w.heap.size, 2, none⟩ = false := (bkeepF hb9 c2).trans (HF0.out 2)))
  all_goals
    have hx := cells3 (v0 := .int .i64 (k0 : Int)) (v1 := .int .i64 (nx : Int)) (v2 := .string (b.extract 11 (11 + n))) d0 d1 d2
    have HBE : Hid (Below w.heap.size w (((w9.setCell ⟨w.heap.size, 0, none⟩ (.int .i64 (k0 : Int))).setCell ⟨w.heap.size, 1, none⟩ (.int .i64 (nx : Int))).setCell ⟨w.heap.size, 2, none⟩ (.string (b.extract 11 (11 + n))))) := Lib.hid (((((HB7.out.trans ((Below.refl _ _).drew |>.trans (hb9.mono HB7.out.size)))).setCell (Nat.le_refl _) _).setCell (Nat.le_refl _) _).setCell (Nat.le_refl _) _)
    clear hwk
    generalize ((w9.setCell ⟨w.heap.size, 0, none⟩ (.int .i64 (k0 : Int))).setCell ⟨w.heap.size, 1, none⟩ (.int .i64 (nx : Int))).setCell ⟨w.heap.size, 2, none⟩ (.string (b.extract 11 (11 + n))) = X at *
    obtain ⟨x0, x1, x2⟩ := hx
    clear c0 c1 c2 d0 d1 d2 e0 e1 e2 hb9
    go_wp2
    exact bodyPost_ret (v := .tuple #[pv (k0 : Int) (nx : Int) (b.extract 11 (11 + n)), .int .i64 0]) (by simp [results, Tryz.results163, go_sem, pv, x0, x1, x2]) rfl ⟨rfl, HBE.out⟩
end Go.Proofs.YtlocadmiomglaaaGreatDoor

/- What is sealed is opened as it was: the plain law. -/
namespace Go.Proofs.YtlocadmiomglaaaGreatDoor
open Go.RowKit

theorem byteAt_list (l : List UInt8) (i : Nat) (h : i < l.length) : byteAt ⟨l.toArray⟩ i = (l[i]).toNat := by
  unfold byteAt
  simp [h]

theorem unfix_sum (b : ByteArray) (at' v n : Nat) (h : ∀ i, i < n → byteAt b (at' + i) = v / 2 ^ (8 * i) % 256) : unfixN b at' n = v % 2 ^ (8 * n) := by
  induction n with
  | zero => simp [unfixN, Nat.mod_one]
  | succ n ih =>
    show unfixN b at' n + byteAt b (at' + n) * 2 ^ (8 * n) = _
    rw [ih (fun i hi => h i (by omega)), h n (by omega), show 8 * (n + 1) = 8 * n + 8 by omega, Nat.pow_add, Nat.mod_mul]
    exact congrArg (v % 2 ^ (8 * n) + ·) (Nat.mul_comm _ _)

theorem unfix_fix (pre post : List UInt8) (v n : Nat) (hv : v < 2 ^ (8 * n)) : unfixN ⟨(pre ++ fixL v n ++ post).toArray⟩ pre.length n = v := by
  rw [unfix_sum _ _ v n (fun i hi => ?_), Nat.mod_eq_of_lt hv]
  have hl : pre.length + i < (pre ++ fixL v n ++ post).length := by
    simp only [List.length_append, fixL_length]
    omega
  rw [byteAt_list _ _ hl]
  have hg : (pre ++ fixL v n ++ post)[pre.length + i] = (fixL v n)[i]'(by rw [fixL_length]; exact hi) := by
    rw [List.getElem_append_left (by simp only [List.length_append, fixL_length]; omega), List.getElem_append_right (by omega)]
    congr 1
    omega
  rw [hg]
  simp only [fixL, List.getElem_map, List.getElem_range]
  simp

section
variable {id next kind : Nat} {body : ByteArray}
theorem seal_core : (sealS id next kind body).extract 0 252 = ⟨(coreL id next kind body.data.toList).toArray⟩ ↔ ((sealL id next kind body.data.toList).take 252) = coreL id next kind body.data.toList := by
  have e : ((sealS id next kind body).extract 0 252).data.toList = (sealL id next kind body.data.toList).take 252 := by
    rw [ByteArray.data_extract, Array.toList_extract, List.extract_eq_take_drop]
    simp [sealS]
  constructor
  · intro h
    rw [← e, h]
  · intro h
    apply ByteArray.ext
    apply Array.ext'
    rw [e, h]

theorem seal_take (h : body.size ≤ 240) : (sealS id next kind body).extract 0 252 = ⟨(coreL id next kind body.data.toList).toArray⟩ := by
  rw [seal_core, sealL, List.take_left']
  exact coreL_length _ _ _ _ (by simpa using h)

theorem seal_sum (h : body.size ≤ 240) : unfixN (sealS id next kind body) 252 4 = crcS ((sealS id next kind body).extract 0 252) := by
  rw [seal_take h]
  have hl : (coreL id next kind body.data.toList).length = 252 := coreL_length _ _ _ _ (by simpa using h)
  have e := unfix_fix (coreL id next kind body.data.toList) [] (crcS ⟨(coreL id next kind body.data.toList).toArray⟩) 4 (crcS_lt _)
  rw [hl, List.append_nil] at e
  exact e

theorem seal_own (h : id < 2 ^ 32) : unfixN (sealS id next kind body) 1 4 = id := by
  have e := unfix_fix [UInt8.ofNat kind] (fixL next 4 ++ fixL body.data.toList.length 2 ++ body.data.toList ++ List.replicate (241 - body.data.toList.length) 0 ++ fixL (crcS ⟨(coreL id next kind body.data.toList).toArray⟩) 4) id 4 h
  unfold sealS sealL
  have e2 : coreL id next kind body.data.toList = [UInt8.ofNat kind] ++ fixL id 4 ++ (fixL next 4 ++ fixL body.data.toList.length 2 ++ body.data.toList ++ List.replicate (241 - body.data.toList.length) 0) := by simp [coreL, headL]
  generalize crcS ⟨(coreL id next kind body.data.toList).toArray⟩ = c at *
  rw [e2]
  simpa using e

theorem seal_next (h : next < 2 ^ 32) : unfixN (sealS id next kind body) 5 4 = next := by
  have e := unfix_fix ([UInt8.ofNat kind] ++ fixL id 4) (fixL body.data.toList.length 2 ++ body.data.toList ++ List.replicate (241 - body.data.toList.length) 0 ++ fixL (crcS ⟨(coreL id next kind body.data.toList).toArray⟩) 4) next 4 h
  unfold sealS sealL
  have e2 : coreL id next kind body.data.toList = [UInt8.ofNat kind] ++ fixL id 4 ++ fixL next 4 ++ (fixL body.data.toList.length 2 ++ body.data.toList ++ List.replicate (241 - body.data.toList.length) 0) := by simp [coreL, headL]
  generalize crcS ⟨(coreL id next kind body.data.toList).toArray⟩ = c at *
  rw [e2]
  have hl : ([UInt8.ofNat kind] ++ fixL id 4).length = 5 := by rw [List.length_append, fixL_length]; rfl
  rw [hl] at e
  simpa using e

theorem seal_len (h : body.size ≤ 240) : unfixN (sealS id next kind body) 9 2 = body.size := by
  have hb : body.data.toList.length = body.size := by simp
  have e := unfix_fix ([UInt8.ofNat kind] ++ fixL id 4 ++ fixL next 4) (body.data.toList ++ List.replicate (241 - body.data.toList.length) 0 ++ fixL (crcS ⟨(coreL id next kind body.data.toList).toArray⟩) 4) body.data.toList.length 2 (by omega)
  unfold sealS sealL
  have e2 : coreL id next kind body.data.toList = [UInt8.ofNat kind] ++ fixL id 4 ++ fixL next 4 ++ fixL body.data.toList.length 2 ++ (body.data.toList ++ List.replicate (241 - body.data.toList.length) 0) := by simp [coreL, headL]
  generalize crcS ⟨(coreL id next kind body.data.toList).toArray⟩ = c at *
  rw [e2]
  have hl : ([UInt8.ofNat kind] ++ fixL id 4 ++ fixL next 4).length = 9 := by rw [List.length_append, List.length_append, fixL_length, fixL_length]; rfl
  rw [hl] at e
  rw [← hb]
  simpa using e

theorem seal_kind (h : kind < 256) : byteAt (sealS id next kind body) 0 = kind := by
  unfold sealS
  rw [byteAt_list _ 0 (by simp [sealL, coreL, headL])]
  simp [sealL, coreL, headL]
  omega

theorem seal_body (h : body.size ≤ 240) : (sealS id next kind body).extract 11 (11 + body.size) = body := by
  have hb : body.data.toList.length = body.size := by simp
  apply ByteArray.ext
  apply Array.ext'
  rw [ByteArray.data_extract, Array.toList_extract, List.extract_eq_take_drop]
  show ((sealL id next kind body.data.toList).toArray.toList.drop 11).take (11 + body.size - 11) = _
  have e2 : sealL id next kind body.data.toList = ([UInt8.ofNat kind] ++ fixL id 4 ++ fixL next 4 ++ fixL body.data.toList.length 2) ++ (body.data.toList ++ (List.replicate (241 - body.data.toList.length) 0 ++ fixL (crcS ⟨(coreL id next kind body.data.toList).toArray⟩) 4)) := by simp [sealL, coreL, headL]
  have hl : ([UInt8.ofNat kind] ++ fixL id 4 ++ fixL next 4 ++ fixL body.data.toList.length 2).length = 11 := by simp only [List.length_append, fixL_length]; rfl
  rw [List.toList_toArray, e2, List.drop_left' hl, List.take_left' (by omega)]

theorem seal_tail (h : body.size ≤ 240) : ((sealS id next kind body).extract (11 + body.size) 252).data.toList.all (· == 0) = true := by
  have hb : body.data.toList.length = body.size := by simp
  rw [ByteArray.data_extract, Array.toList_extract, List.extract_eq_take_drop]
  have e2 : sealL id next kind body.data.toList = headL id next kind body.data.toList ++ (List.replicate (241 - body.data.toList.length) 0 ++ fixL (crcS ⟨(coreL id next kind body.data.toList).toArray⟩) 4) := by simp [sealL, coreL]
  show (((sealL id next kind body.data.toList).toArray.toList.drop (11 + body.size)).take (252 - (11 + body.size))).all _ = true
  rw [List.toList_toArray, e2, List.drop_left' (by rw [headL_length, hb]), List.take_left' (by rw [List.length_replicate]; omega)]
  simp

theorem seal_form (hi : id < 2 ^ 32) (hk : 1 ≤ kind) (hk2 : kind < 256) (h : body.size ≤ 240) (x : Int) : formOK x (sealS id next kind body) = decide (x = id) := by
  unfold formOK
  rw [seal_own hi, seal_kind hk2, seal_len h, seal_tail h]
  have : decide (body.size ≤ 240) = true := by simpa using h
  rw [this]
  have : (kind == 0) = false := by simp; omega
  rw [this]
  simp
  exact eq_comm
end

/-- What is sealed is opened as it was. -/
theorem open_seal (id next kind : Nat) (body : ByteArray) (w : World) (h1 : id < 2 ^ 32) (h2 : next < 2 ^ 32) (h3 : 1 ≤ kind) (h4 : kind ≤ 255) (h5 : body.size ≤ 240) :
    Calls Tryz.prog 163 #[.int .i64 id, .string (sealS id next kind body)] w fun e w' => e = .returned (.tuple #[pv kind next body, .int .i64 0]) ∧ Below w.heap.size w w' := by
  have e := page_open_ok id (sealS id next kind body) w (sealS_size _ _ _ _ h5) (seal_sum h5) (by rw [seal_form h1 h3 (by omega) h5]; simp)
  rw [seal_kind (by omega), seal_next h2, seal_len h5, seal_body h5] at e
  exact e

/-- .. but not as another number. -/
theorem open_other (id next kind : Nat) (x : Int) (body : ByteArray) (w : World) (h1 : id < 2 ^ 32) (h3 : 1 ≤ kind) (h4 : kind ≤ 255) (h5 : body.size ≤ 240) (hx : x ≠ id) :
    Calls Tryz.prog 163 #[.int .i64 x, .string (sealS id next kind body)] w fun e w' => e = .returned (.tuple #[pv 0 0 ByteArray.empty, .int .i64 4]) ∧ Below w.heap.size w w' :=
  page_open_form x (sealS id next kind body) w (sealS_size _ _ _ _ h5) (seal_sum h5) (by rw [seal_form h1 h3 (by omega) h5]; simpa using hx)
end Go.Proofs.YtlocadmiomglaaaGreatDoor

/- page.Seal's refusals; arboretumlaw4.alive is true. -/
namespace Go.Proofs.YtlocadmiomglaaaGreatDoor
open Go.RowKit

/-- Are the numbers such that a page can be sealed? -/
def sealOK (id next kind : Int) : Prop := 0 ≤ id ∧ id < 4294967296 ∧ 0 ≤ next ∧ next < 4294967296 ∧ 1 ≤ kind ∧ kind ≤ 255

set_option maxHeartbeats 1000000 in
set_option maxRecDepth 100000 in
theorem page_seal_bad (id next kind : Int) (body : ByteArray) (w : World) (h : ¬ sealOK id next kind) :
    Calls Tryz.prog 55 #[.int .i64 id, .agg #[.int .i64 kind, .int .i64 next, .string body]] w fun e w' => e = .returned (.tuple #[.string ByteArray.empty, .int .i64 1]) ∧ Below w.heap.size w w' := by
  unfold sealOK at h
  by_cases h1 : id < 0 ∨ 4294967295 < id
  · have HI1 := Lib.hid (fun w => in_no id 0 4294967295 w h1)
    clear h h1
    go_enter Tryz.func55, Tryz.ntmps55
    go_wp2_with fail
    refine (HI1.out _).mono ?_
    rintro e w1 ⟨rfl, rfl⟩
    go_wp2
    go_ret2
    exact ⟨rfl, (Below.refl _ _).alloc (Nat.le_refl _) _⟩
  have HI1 := Lib.hid (fun w => in_yes id 0 4294967295 w (by omega) (by omega))
  by_cases h2 : next < 0 ∨ 4294967295 < next
  · have HI2 := Lib.hid (fun w => in_no next 0 4294967295 w h2)
    clear h h1 h2
    go_enter Tryz.func55, Tryz.ntmps55
    go_wp2_with fail
    refine (HI1.out _).mono ?_
    rintro e w1 ⟨rfl, rfl⟩
    go_wp2_with fail
    refine (HI2.out _).mono ?_
    rintro e w1 ⟨rfl, rfl⟩
    go_wp2
    go_ret2
    exact ⟨rfl, (Below.refl _ _).alloc (Nat.le_refl _) _⟩
  have HI2 := Lib.hid (fun w => in_yes next 0 4294967295 w (by omega) (by omega))
  have HI3 := Lib.hid (fun w => in_no kind 1 255 w (by omega))
  clear h h1 h2
  go_enter Tryz.func55, Tryz.ntmps55
  go_wp2_with fail
  refine (HI1.out _).mono ?_
  rintro e w1 ⟨rfl, rfl⟩
  go_wp2_with fail
  refine (HI2.out _).mono ?_
  rintro e w1 ⟨rfl, rfl⟩
  go_wp2_with fail
  refine (HI3.out _).mono ?_
  rintro e w1 ⟨rfl, rfl⟩
  go_wp2
  go_ret2
  exact ⟨rfl, (Below.refl _ _).alloc (Nat.le_refl _) _⟩

set_option maxHeartbeats 1000000 in
set_option maxRecDepth 100000 in
theorem page_seal_long (id next kind : Int) (body : ByteArray) (w : World) (h : sealOK id next kind) (hb : 240 < body.size) (hb2 : body.size ≤ 1000000) :
    Calls Tryz.prog 55 #[.int .i64 id, .agg #[.int .i64 kind, .int .i64 next, .string body]] w fun e w' => e = .returned (.tuple #[.string ByteArray.empty, .int .i64 2]) ∧ Below w.heap.size w w' := by
  obtain ⟨h1, h2, h3, h4, h5, h6⟩ := h
  have HI1 := Lib.hid (fun w => in_yes id 0 4294967295 w (by omega) (by omega))
  have HI2 := Lib.hid (fun w => in_yes next 0 4294967295 w (by omega) (by omega))
  have HI3 := Lib.hid (fun w => in_yes kind 1 255 w (by omega) (by omega))
  clear h1 h2 h3 h4 h5 h6
  go_enter Tryz.func55, Tryz.ntmps55
  go_wp2_with fail
  refine (HI1.out _).mono ?_
  rintro e w1 ⟨rfl, rfl⟩
  go_wp2_with fail
  refine (HI2.out _).mono ?_
  rintro e w1 ⟨rfl, rfl⟩
  go_wp2_with fail
  refine (HI3.out _).mono ?_
  rintro e w1 ⟨rfl, rfl⟩
  go_wp2
  go_ret2
  exact ⟨rfl, (Below.refl _ _).alloc (Nat.le_refl _) _⟩

end Go.Proofs.YtlocadmiomglaaaGreatDoor

