/- Plain facts on quorums: no program in sight. -/
import Derived.Test.YtmfidemkmmbioaaGreatConfL
namespace Go.Proofs.YtmfidemkmmbioaaGreat
namespace CL

theorem cnt_perm {a a' v : List Int} (h : a.Perm a') : cnt a v = cnt a' v := (h.filter _).length_eq

theorem won_iff {m v : List Int} (h : 0 < (nrm m).length) : won m v = decide (quo (nrm m).length ≤ cnt (nrm m) v) := by
  unfold won
  have hq : 1 ≤ quo (nrm m).length := by unfold quo; rw [if_neg (by omega)]; omega
  by_cases h1 : quo (nrm m).length ≤ cnt (nrm m) v
  · have : 0 < cnt (nrm m) v := by omega
    simp [h1, this]
  · simp [h1]

theorem quo_two {n : Nat} (h : 0 < n) : n < 2 * quo n := by unfold quo; rw [if_neg (by omega)]; omega
theorem quo_le (n : Nat) : quo n ≤ n := by unfold quo; split <;> omega

theorem perm_add {m n : List Int} {x : Int} (hm : Up m) (hn : Up n) (hx : x ∉ m) (h : ∀ y, y ∈ n ↔ y = x ∨ y ∈ m) : n.Perm (x :: m) :=
  (List.perm_ext_iff_of_nodup (up_nodup hn) (List.nodup_cons.2 ⟨hx, up_nodup hm⟩)).2 (fun y => by rw [h, List.mem_cons])

/-- Two quorums have one in common. -/
theorem meet {m n a b : List Int} (hm : Up m) (hn : Up n) (hm0 : 0 < m.length) (hn0 : 0 < n.length) (hs : n = m ∨ (∃ x, n.Perm (x :: m)) ∨ ∃ x, m.Perm (x :: n)) (ha : won m a = true) (hb : won n b = true) : ∃ x, x ∈ a ∧ x ∈ b ∧ x ∈ m := by
  apply Classical.byContradiction
  intro hno
  have h2 : cnt m a + cnt m b ≤ m.length := cnt_two (fun x h1 h2 h3 => hno ⟨x, h2, h3, h1⟩)
  rw [won_iff (by rw [nrm_of_up hm]; exact hm0), nrm_of_up hm] at ha
  rw [won_iff (by rw [nrm_of_up hn]; exact hn0), nrm_of_up hn] at hb
  have ha' : quo m.length ≤ cnt m a := by simpa using ha
  have hb' : quo n.length ≤ cnt n b := by simpa using hb
  unfold quo at ha' hb'
  rw [if_neg (by omega)] at ha' hb'
  rcases hs with rfl | ⟨x, hp⟩ | ⟨x, hp⟩
  · omega
  · have e1 := hp.length_eq
    have e2 : cnt n b ≤ cnt m b + 1 := by
      rw [cnt_perm hp]
      unfold cnt
      rw [List.filter_cons]
      split <;> simp
    simp at e1
    omega
  · have e1 := hp.length_eq
    have e2 : cnt n b ≤ cnt m b := by
      rw [cnt_perm hp]
      unfold cnt
      rw [List.filter_cons]
      split <;> simp
    simp at e1
    omega

/-- The number that stands q from the end of the sorted row: q are as great at least, fewer than q are greater. -/
theorem stat_ge {ys : List Int} {q : Nat} {x : Int} (hq : q ≤ ys.length) (hx : (srt ys)[ys.length - q]? = some x) : q ≤ (ys.filter (fun v => decide (x ≤ v))).length := by
  rw [← ((srt_perm ys).filter _).length_eq]
  have hl := srt_length ys
  rw [← List.take_append_drop (ys.length - q) (srt ys), List.filter_append, List.length_append]
  have : (List.drop (ys.length - q) (srt ys)).filter (fun v => decide (x ≤ v)) = List.drop (ys.length - q) (srt ys) := by
    rw [List.filter_eq_self]
    intro v hv
    obtain ⟨j, hj, rfl⟩ := List.getElem_of_mem hv
    rw [List.getElem_drop]
    have hj' : ys.length - q + j < (srt ys).length := by simp at hj; omega
    have hx' : ∃ h, (srt ys)[ys.length - q]'h = x := by rw [List.getElem?_eq_some_iff] at hx; exact hx
    obtain ⟨h0, rfl⟩ := hx'
    rcases Nat.eq_zero_or_pos j with e | e
    · subst e; simp
    · have := List.pairwise_iff_getElem.1 (srt_sorted ys) (ys.length - q) (ys.length - q + j) h0 hj' (by omega)
      simpa using this
  rw [this, List.length_drop]
  omega

theorem stat_gt {ys : List Int} {q : Nat} {x : Int} (h1 : 1 ≤ q) (hq : q ≤ ys.length) (hx : (srt ys)[ys.length - q]? = some x) : (ys.filter (fun v => decide (x < v))).length < q := by
  rw [← ((srt_perm ys).filter _).length_eq]
  have hl := srt_length ys
  rw [← List.take_append_drop (ys.length - q + 1) (srt ys), List.filter_append, List.length_append]
  have : (List.take (ys.length - q + 1) (srt ys)).filter (fun v => decide (x < v)) = [] := by
    rw [List.filter_eq_nil_iff]
    intro v hv
    obtain ⟨j, hj, rfl⟩ := List.getElem_of_mem hv
    rw [List.getElem_take]
    have hj' : j < ys.length - q + 1 := by simp at hj; omega
    have hx' : ∃ h, (srt ys)[ys.length - q]'h = x := by rw [List.getElem?_eq_some_iff] at hx; exact hx
    obtain ⟨h0, rfl⟩ := hx'
    rcases Nat.lt_or_ge j (ys.length - q) with g | g
    · have := List.pairwise_iff_getElem.1 (srt_sorted ys) j (ys.length - q) (by omega) h0 g
      simp; omega
    · obtain rfl : j = ys.length - q := by omega
      simp
  rw [this]
  have h3 : ((List.drop (ys.length - q + 1) (srt ys)).filter (fun v => decide (x < v))).length ≤ (List.drop (ys.length - q + 1) (srt ys)).length := List.length_filter_le _ _
  rw [List.length_drop] at h3
  simp only [List.length_nil]
  omega
end CL
end Go.Proofs.YtmfidemkmmbioaaGreat
