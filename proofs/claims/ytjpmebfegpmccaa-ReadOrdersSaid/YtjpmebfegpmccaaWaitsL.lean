/- Plain facts for ReadWaits and ReadOrders: what is added, and what is told. -/
import Derived.Test.YtjpmebfegpmccaaReady
namespace Go.Proofs.Ytjpmebfegpmccaa

/-- What the law adds in its first i rounds: each read, its place as its name. -/
def rl (zs : List Rd) (i : Nat) : List Wt := (List.range i).map fun (k : Nat) => ((k : Int), (HL.el zs k).2.1, (HL.el zs k).2.2, (k : Int) + 1)
theorem rl_succ (zs : List Rd) (i : Nat) : rl zs (i + 1) = rl zs i ++ [((i : Int), (HL.el zs i).2.1, (HL.el zs i).2.2, (i : Int) + 1)] := by simp [rl, List.range_succ]
theorem rl_length (zs : List Rd) (i : Nat) : (rl zs i).length = i := by simp [rl]
theorem mem_rl {zs : List Rd} {n : Nat} {x : Wt} (h : x ∈ rl zs n) : ∃ j : Nat, j < n ∧ x = ((j : Int), (HL.el zs j).2.1, (HL.el zs j).2.2, (j : Int) + 1) := by
  simp only [rl, List.mem_map, List.mem_range] at h
  obtain ⟨j, hj, e⟩ := h
  exact ⟨j, hj, e.symm⟩
theorem pickR_iff (a b : Int) (x : Rd) : pickR a b x = true ↔ x.2.2 ≤ a ∧ x.2.1 ≤ b := by
  unfold pickR
  constructor
  · intro h
    obtain ⟨h1, h2⟩ := Bool.and_eq_true_iff.1 h
    exact ⟨of_decide_eq_true h1, of_decide_eq_true h2⟩
  · rintro ⟨h1, h2⟩
    exact Bool.and_eq_true_iff.2 ⟨decide_eq_true h1, decide_eq_true h2⟩
def isPk (a b : Int) (x : Wt) : Bool := pickR a b (rdOf x)
def cntR (zs : List Rd) (a b : Int) (i : Nat) : Nat := (rl zs i).countP (isPk a b)
theorem cntR_le (zs : List Rd) (a b : Int) (i : Nat) : cntR zs a b i ≤ i := by
  have := List.countP_le_length (p := isPk a b) (l := rl zs i)
  rw [rl_length] at this
  exact this
theorem cntR_succ (zs : List Rd) (a b : Int) (i : Nat) : cntR zs a b (i + 1) = cntR zs a b i + if (HL.el zs i).2.2 ≤ a ∧ (HL.el zs i).2.1 ≤ b then 1 else 0 := by
  unfold cntR
  rw [rl_succ, List.countP_append]
  congr 1
  have e : isPk a b ((i : Int), (HL.el zs i).2.1, (HL.el zs i).2.2, (i : Int) + 1) = true ↔ (HL.el zs i).2.2 ≤ a ∧ (HL.el zs i).2.1 ≤ b := pickR_iff a b _
  rw [List.countP_singleton]
  by_cases h : (HL.el zs i).2.2 ≤ a ∧ (HL.el zs i).2.1 ≤ b
  · rw [if_pos h, if_pos (e.2 h)]
  · rw [if_neg h, if_neg (fun h' => h (e.1 h'))]

/-- What is told, as names. -/
def told (T : List Wt) (a b : Int) : List Int := (T.filter fun x => pickR a b (rdOf x)).map (·.1)

theorem told_length {T : List Wt} {zs : List Rd} {n : Nat} (hp : T.Perm (rl zs n)) (a b : Int) : (T.filter fun x => pickR a b (rdOf x)).length = cntR zs a b n := by
  unfold cntR
  rw [← hp.countP_eq, List.countP_eq_length_filter]
  rfl

theorem left_length {T : List Wt} {zs : List Rd} {n : Nat} (hp : T.Perm (rl zs n)) (a b : Int) : (T.filter fun x => !pickR a b (rdOf x)).length = n - cntR zs a b n := by
  have h1 := told_length hp a b
  have h2 := hp.length_eq
  rw [rl_length] at h2
  have h3 := List.length_eq_countP_add_countP (isPk a b) (l := T)
  rw [List.countP_eq_length_filter, List.countP_eq_length_filter] at h3
  have e1 : (T.filter (isPk a b)) = T.filter fun x => pickR a b (rdOf x) := rfl
  have e2 : (T.filter fun x => decide ¬ isPk a b x = true) = T.filter fun x => !pickR a b (rdOf x) := by
    congr 1
    funext x
    unfold isPk
    cases pickR a b (rdOf x) <;> rfl
  rw [e1, e2] at h3
  omega

theorem told_at {T : List Wt} {zs : List Rd} {n : Nat} (hp : T.Perm (rl zs n)) (a b : Int) (k : Nat) (hk : k < (told T a b).length) :
    ∃ j : Nat, j < n ∧ HL.el (told T a b) k = (j : Int) ∧ (HL.el zs j).2.2 ≤ a ∧ (HL.el zs j).2.1 ≤ b := by
  have hm := HL.el_mem (told T a b) k hk
  obtain ⟨x, hx, e⟩ := List.mem_map.1 hm
  obtain ⟨hx1, hx2⟩ := List.mem_filter.1 hx
  obtain ⟨j, hj, rfl⟩ := mem_rl (hp.subset hx1)
  have hx2 : (HL.el zs j).2.2 ≤ a ∧ (HL.el zs j).2.1 ≤ b := (pickR_iff a b _).1 hx2
  exact ⟨j, hj, e.symm, hx2⟩

theorem told_nodup {T : List Wt} {zs : List Rd} {n : Nat} (hp : T.Perm (rl zs n)) (a b : Int) : (told T a b).Nodup := by
  have h1 : (T.map (·.1)).Nodup := by
    refine (hp.map (·.1)).nodup_iff.2 ?_
    unfold rl
    rw [List.map_map]
    refine List.Pairwise.map _ ?_ (List.nodup_range (n := n))
    intro x y hxy e
    simp only [Function.comp_apply] at e
    omega
  exact h1.sublist (List.filter_sublist.map _)

theorem nodup_el {l : List Int} (h : l.Nodup) {i k : Nat} (hi : i < l.length) (hk : k < l.length) (hne : i ≠ k) : HL.el l i ≠ HL.el l k := by
  have ei := HL.el_eq l i hi
  have ek := HL.el_eq l k hk
  rw [List.getElem?_eq_getElem hi] at ei
  rw [List.getElem?_eq_getElem hk] at ek
  injection ei with ei
  injection ek with ek
  rw [← ei, ← ek]
  rcases Nat.lt_or_gt_of_ne hne with h1 | h1
  · exact List.pairwise_iff_getElem.1 h i k hi hk h1
  · exact fun e => List.pairwise_iff_getElem.1 h k i hk hi h1 e.symm

/-- Behind Ready with the same numbers nothing is told. -/
theorem again_none {T T2 l : List Wt} {a b : Int} (hl : l.Perm (T.filter fun x => !pickR a b (rdOf x))) (h2 : T2.Perm l) : (T2.filter fun x => pickR a b (rdOf x)) = [] := by
  rw [List.filter_eq_nil_iff]
  intro x hx hp
  have := hl.subset (h2.subset hx)
  have h3 := (List.mem_filter.1 this).2
  rw [hp] at h3
  cases h3
theorem filter_split {α : Type} (T : List α) (f : α → Bool) : (T.filter f).length + (T.filter fun x => !f x).length = T.length := by
  induction T with
  | nil => rfl
  | cons x T ih =>
    cases h : f x <;> simp [h] <;> omega

theorem filter_all {α : Type} (T : List α) : (T.filter fun _ => true) = T := by
  induction T with
  | nil => rfl
  | cons x T ih => simp
end Go.Proofs.Ytjpmebfegpmccaa
