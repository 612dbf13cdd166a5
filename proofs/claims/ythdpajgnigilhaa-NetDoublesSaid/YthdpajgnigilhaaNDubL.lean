/- arboretumlaw27.NetDoubles: the plain law. -/
import Derived.Test.YthdpajgnigilhaaNetY
namespace Go.Proofs.Ythdpajgnigilhaa

theorem el_get (l : List Nd) (i : Nat) (h : i < l.length) : HL.el l i = l[i] := by simp [HL.el, List.getD, h]
theorem sorted_pw {l : List Nd} (h : SortedD l) : l.Pairwise (fun a b => wlt b a = false) := by
  rw [List.pairwise_iff_getElem]
  intro i j hi hj hij
  have := h i j hij hj
  rwa [el_get l i hi, el_get l j hj] at this

/-- Numbers rise: so there is but one order. -/
def Up (l : List Nd) : Prop := l.Pairwise (fun a b => a.sq < b.sq)
theorem Up.inj {l : List Nd} (h : Up l) {a b : Nd} (ha : a ∈ l) (hb : b ∈ l) (e : a.sq = b.sq) : a = b := by
  induction l with
  | nil => cases ha
  | cons x l ih =>
    obtain ⟨h1, h2⟩ := List.pairwise_cons.1 h
    rcases List.mem_cons.1 ha with rfl | ha
    · rcases List.mem_cons.1 hb with rfl | hb
      · rfl
      · have := h1 b hb; omega
    · rcases List.mem_cons.1 hb with rfl | hb
      · have := h1 a (by assumption); omega
      · exact ih h2 ha hb
theorem Up.nodup {l : List Nd} (h : Up l) : l.Nodup := List.Pairwise.imp (fun {a b} h e => by rw [e] at h; omega) h
/-- A sorted list of those of one time is they, in their order. -/
theorem up_sort {l ts : List Nd} (h : Up l) (hat : ∀ y ∈ l, y.at' = 10) (hp : ts.Perm l) (hs : SortedD ts) : ts = l := by
  refine List.Perm.eq_of_pairwise (le := fun a b => wlt b a = false) ?_ (sorted_pw hs) ?_ hp
  · intro a b ha hb h1 h2
    have ha' := hp.mem_iff.1 ha
    rw [wlt_false] at h1 h2
    have e1 := hat a ha'
    have e2 := hat b hb
    exact h.inj ha' hb (by omega)
  · refine List.Pairwise.imp_of_mem ?_ h
    intro a b ha hb hl
    rw [wlt_false]
    have e1 := hat a ha
    have e2 := hat b hb
    omega

/-- What n sends leave. -/
def sn (n : Nat) : List Nd := (List.range n).map (fun i : Nat => ⟨0, (i : Int), ByteArray.empty, 10, (i : Int) + 1⟩)
theorem sn_succ (n : Nat) : sn (n + 1) = sn n ++ [⟨0, (n : Int), ByteArray.empty, 10, (n : Int) + 1⟩] := by simp [sn, List.range_succ]
theorem sn_length (n : Nat) : (sn n).length = n := by simp [sn]
theorem sn_el (n k : Nat) (h : k < n) : HL.el (sn n) k = ⟨0, (k : Int), ByteArray.empty, 10, (k : Int) + 1⟩ := by
  rw [el_get _ _ (by rw [sn_length]; exact h)]
  simp [sn]
theorem sn_mem {n : Nat} {y : Nd} (h : y ∈ sn n) : ∃ i, i < n ∧ y = ⟨0, (i : Int), ByteArray.empty, 10, (i : Int) + 1⟩ := by
  simp only [sn, List.mem_map, List.mem_range] at h
  obtain ⟨i, hi, rfl⟩ := h
  exact ⟨i, hi, rfl⟩
theorem sn_up (n : Nat) : Up (sn n) := by
  induction n with
  | zero => exact List.Pairwise.nil
  | succ n ih =>
    rw [sn_succ]
    refine List.pairwise_append.2 ⟨ih, by simp, ?_⟩
    intro a ha b hb
    obtain ⟨i, hi, rfl⟩ := sn_mem ha
    obtain rfl : b = _ := by simpa using hb
    simp only
    omega
def toC (S : List Nd) (j : Nat) : Nat := S.countP (fun y => decide (y.to = (j : Int)))
theorem toC_append (S T : List Nd) (j : Nat) : toC (S ++ T) j = toC S j + toC T j := List.countP_append
theorem toC_one (x : Nd) (j : Nat) : toC [x] j = if x.to = (j : Int) then 1 else 0 := by
  by_cases h : x.to = (j : Int) <;> simp [toC, h]
theorem toC_cons (x : Nd) (S : List Nd) (j : Nat) : toC (x :: S) j = toC S j + if x.to = (j : Int) then 1 else 0 := by
  by_cases h : x.to = (j : Int) <;> simp [toC, h]
theorem toC_perm {S T : List Nd} (h : S.Perm T) (j : Nat) : toC S j = toC T j := h.countP_eq _
theorem toC_sn (n j : Nat) : toC (sn n) j = if j < n then 1 else 0 := by
  induction n with
  | zero => simp [sn, toC]
  | succ n ih =>
    rw [sn_succ, toC_append, ih, toC_one]
    by_cases h1 : j < n
    · rw [if_pos h1, if_neg (by simp only; omega), if_pos (by omega)]
    · by_cases h2 : j = n
      · subst h2; rw [if_neg h1, if_pos rfl, if_pos (by omega)]
      · rw [if_neg h1, if_neg (by simp only; omega), if_neg (by omega)]

/-- The one that was delayed. -/
def zD (n k : Nat) (by' : Int) : Nd := ⟨0, (k : Int), ByteArray.empty, 10 + by', (n : Int) + 1 + 1⟩
def wantD (k j : Nat) : Nat := if j = k then 2 else 1

structure DInv (n k : Nat) (by' : Int) (i : Nat) (S : List Nd) (seen : Nat → Nat) : Prop where
  len : S.length + i = n + 1
  at10 : ∀ y ∈ S, y.at' = 10 ∨ y = zD n k by'
  to : ∀ y ∈ S, ∃ j, j < n ∧ y.to = (j : Int)
  cnt : ∀ j, j < n → seen j + toC S j = wantD k j
  last : 0 < S.length → zD n k by' ∈ S ∨ by' = 0
  nd : S.Nodup

theorem DInv.start {n k : Nat} {by' : Int} (hk : k < n) {x : Nd} {S1 ts : List Nd} (hts : ts.Perm (sn n ++ [⟨0, (k : Int), ByteArray.empty, 10, (n : Int) + 1⟩])) (hsd : SortedD ts) (hx : x = HL.el ts k) (hp : (x :: S1).Perm (sn n ++ [⟨0, (k : Int), ByteArray.empty, 10, (n : Int) + 1⟩])) :
    x.fr = 0 ∧ x.to = (k : Int) ∧ x.da = ByteArray.empty ∧ x.at' = 10 ∧ DInv n k by' 0 (S1 ++ [zD n k by']) (fun _ => 0) := by
  have hu : Up (sn n ++ [⟨0, (k : Int), ByteArray.empty, 10, (n : Int) + 1⟩]) := by
    refine List.pairwise_append.2 ⟨sn_up n, by simp, ?_⟩
    intro a ha b hb
    obtain ⟨i, hi, rfl⟩ := sn_mem ha
    obtain rfl : b = _ := by simpa using hb
    simp only
    omega
  have hat : ∀ y ∈ sn n ++ [(⟨0, (k : Int), ByteArray.empty, 10, (n : Int) + 1⟩ : Nd)], y.at' = 10 ∧ (∃ j, j < n ∧ y.to = (j : Int)) ∧ y.sq ≤ n + 1 := by
    intro y hy
    rcases List.mem_append.1 hy with h | h
    · obtain ⟨i, hi, rfl⟩ := sn_mem h
      exact ⟨rfl, ⟨i, hi, rfl⟩, by simp only; omega⟩
    · obtain rfl : y = _ := by simpa using h
      exact ⟨rfl, ⟨k, hk, rfl⟩, by simp only; omega⟩
  have hte := up_sort hu (fun y hy => (hat y hy).1) hts hsd
  subst hte
  have hxe : x = ⟨0, (k : Int), ByteArray.empty, 10, (k : Int) + 1⟩ := by
    rw [hx, HL.el_append_left _ _ _ (by rw [sn_length]; exact hk), sn_el n k hk]
  subst hxe
  have hsub : ∀ y ∈ S1, y ∈ sn n ++ [(⟨0, (k : Int), ByteArray.empty, 10, (n : Int) + 1⟩ : Nd)] := fun y hy => hp.mem_iff.1 (List.mem_cons_of_mem _ hy)
  have hnd : S1.Nodup := (List.nodup_cons.1 (hp.nodup_iff.2 hu.nodup)).2
  refine ⟨rfl, rfl, rfl, rfl, ⟨?_, ?_, ?_, ?_, ?_, ?_⟩⟩
  · have := hp.length_eq
    simp only [List.length_cons, List.length_append, sn_length, List.length_nil] at *
    omega
  · intro y hy
    rcases List.mem_append.1 hy with h | h
    · exact .inl (hat y (hsub y h)).1
    · exact .inr (by simpa using h)
  · intro y hy
    rcases List.mem_append.1 hy with h | h
    · exact (hat y (hsub y h)).2.1
    · obtain rfl : y = _ := by simpa using h
      exact ⟨k, hk, rfl⟩
  · intro j hj
    have e := toC_perm hp j
    rw [toC_cons, toC_append, toC_sn, if_pos hj, toC_one] at e
    rw [toC_append, toC_one, wantD]
    simp only [zD] at *
    by_cases h : k = j
    · subst h
      simp at e ⊢
      omega
    · have h1 : ¬ (k : Int) = (j : Int) := by omega
      have h2 : ¬ j = k := by omega
      simp [h1, h2] at e ⊢
      omega
  · intro _
    exact .inl (List.mem_append_right _ (by simp))
  · refine List.nodup_append.2 ⟨hnd, by simp, ?_⟩
    intro a ha b hb e
    obtain rfl : b = _ := by simpa using hb
    subst e
    have := (hat _ (hsub _ ha)).2.2
    simp only [zD] at this
    omega

theorem DInv.step {n k : Nat} {by' : Int} {i : Nat} {S S' : List Nd} {seen : Nat → Nat} {x : Nd} (hby : 0 ≤ by') (h : DInv n k by' i S seen) (hx : x ∈ S) (hmin : ∀ y ∈ S, wlt y x = false) (hp : (x :: S').Perm S) :
    ∃ j, j < n ∧ x.to = (j : Int) ∧ x.at' ≤ 10 + by' ∧ (0 < by' → i = n → j = k) ∧ DInv n k by' (i + 1) S' (fun a => if a = j then seen a + 1 else seen a) := by
  obtain ⟨j, hj, hto⟩ := h.to x hx
  have hlen := hp.length_eq
  rw [List.length_cons] at hlen
  have hL := h.len
  have hsub : ∀ y ∈ S', y ∈ S := fun y hy => hp.mem_iff.1 (List.mem_cons_of_mem _ hy)
  have hnd := List.nodup_cons.1 (hp.nodup_iff.2 h.nd)
  refine ⟨j, hj, hto, ?_, ?_, ⟨by omega, fun y hy => h.at10 y (hsub y hy), fun y hy => h.to y (hsub y hy), ?_, ?_, hnd.2⟩⟩
  · rcases h.at10 x hx with e | e
    · omega
    · rw [e]; simp [zD]
  · intro hb hi
    have hS' : S' = [] := List.eq_nil_of_length_eq_zero (by omega)
    subst hS'
    rcases h.last (by omega) with hz | hz
    · have := hp.mem_iff.2 hz
      obtain e : zD n k by' = x := by simpa using this
      rw [← e] at hto
      simp only [zD] at hto
      omega
    · omega
  · intro a ha
    have e := toC_perm hp a
    rw [toC_cons] at e
    have c := h.cnt a ha
    by_cases haj : a = j
    · subst haj
      rw [if_pos rfl]
      rw [if_pos hto] at e
      omega
    · rw [if_neg haj]
      rw [if_neg (by omega)] at e
      omega
  · intro h0
    rcases h.last (by omega) with hz | hz
    · rcases List.mem_cons.1 (hp.mem_iff.2 hz) with e | e
      · right
        obtain ⟨y, S2, rfl⟩ := List.exists_cons_of_length_pos h0
        have hy := hsub y (by simp)
        rcases h.at10 y hy with ey | ey
        · have hm := hmin y hy
          rw [wlt_false, ← e] at hm
          simp only [zD] at hm
          omega
        · exact absurd (by rw [← e, ← ey]; simp) hnd.1
      · exact .inl e
    · exact .inr hz
end Go.Proofs.Ythdpajgnigilhaa
