/- Plain facts for ReadOrders: what is told piece by piece is the whole, in order. -/
import Derived.Test.YtjpmebfegpmccaaWaitsL
import Derived.Test.YtjpmebfegpmccaaROpen
namespace Go.Proofs.Ytjpmebfegpmccaa

abbrev SortW (T : List Wt) : Prop := T.Pairwise fun a b => wlt b a = false
abbrev big : Int := 9223372036854775807

/-- Two sorted lists of the same reads are one list. -/
theorem sort_one {zs : List Rd} {n : Nat} {T U : List Wt} (hT : ∀ x ∈ T, x ∈ rl zs n) (h1 : SortW T) (h2 : SortW U) (hp : U.Perm T) : U = T := by
  refine List.Perm.eq_of_pairwise (le := fun a b => wlt b a = false) ?_ h2 h1 hp
  intro a b ha hb h3 h4
  obtain ⟨j, hj, rfl⟩ := mem_rl (hT a (hp.subset ha))
  obtain ⟨k, hk, rfl⟩ := mem_rl (hT b hb)
  rw [wlt_false] at h3 h4
  simp only at h3 h4
  have : j = k := by omega
  subst this
  rfl

/-- Those of a sorted list that are picked by their round stand first. -/
theorem sort_split {T : List Wt} (h : SortW T) (hi : ∀ x ∈ T, x.2.1 ≤ big) (a : Int) :
    (T.filter fun x => pickR a big (rdOf x)) ++ (T.filter fun x => !pickR a big (rdOf x)) = T := by
  induction T with
  | nil => rfl
  | cons x T ih =>
    have hT := List.pairwise_cons.1 h
    have ih := ih hT.2 (fun y hy => hi y (List.mem_cons_of_mem _ hy))
    cases hx : pickR a big (rdOf x) with
    | true => simp only [List.filter_cons, hx, Bool.not_true, if_true, List.cons_append, ih, Bool.false_eq_true, if_false]
    | false =>
      have hnone : (T.filter fun x => pickR a big (rdOf x)) = [] := by
        rw [List.filter_eq_nil_iff]
        intro y hy hpy
        have h1 := hT.1 y hy
        have h2 := (pickR_iff a big _).1 hpy
        have h3 : ¬ (pickR a big (rdOf x) = true) := by rw [hx]; exact Bool.false_ne_true
        rw [pickR_iff] at h3
        rw [wlt_false] at h1
        have h4 := hi x List.mem_cons_self
        obtain ⟨x0, x1, x2, x3⟩ := x
        obtain ⟨y0, y1, y2, y3⟩ := y
        simp only [rdOf] at h1 h2 h3 h4
        omega
      rw [hnone] at ih
      simp only [List.filter_cons, hx, Bool.not_false, if_true, Bool.false_eq_true, if_false, hnone, List.nil_append] at ih ⊢
      rw [ih]

/-- What was told so far, and what waits. -/
def Told (T P : List Wt) (l : List Wt) : Prop := ∃ R, T = P ++ R ∧ l.Perm R

theorem told_start {T l : List Wt} (hp : l.Perm T) : Told T [] l := ⟨T, rfl, hp⟩

theorem told_step {zs : List Rd} {n : Nat} {T P l U l' : List Wt} (h : Told T P l) (hT : ∀ x ∈ T, x ∈ rl zs n) (hs : SortW T) (hi : ∀ x ∈ T, x.2.1 ≤ big) (hU : U.Perm l) (hsU : SortW U) (a : Int)
    (hl : l'.Perm (U.filter fun x => !pickR a big (rdOf x))) : Told T (P ++ U.filter fun x => pickR a big (rdOf x)) l' := by
  obtain ⟨R, rfl, hR⟩ := h
  have hsR : SortW R := (List.pairwise_append.1 hs).2.1
  have e : U = R := sort_one (fun x hx => hT x (List.mem_append_right _ hx)) hsR hsU (hU.trans hR)
  subst e
  refine ⟨_, ?_, hl⟩
  rw [List.append_assoc, sort_split hsR (fun x hx => hi x (List.mem_append_right _ hx))]

theorem told_le {T P l : List Wt} (h : Told T P l) : P.length ≤ T.length := by
  obtain ⟨R, rfl, _⟩ := h
  rw [List.length_append]
  omega
theorem told_rest {T P l : List Wt} (h : Told T P l) : (l.length : Int) = (T.length : Int) - (P.length : Int) := by
  obtain ⟨R, rfl, hp⟩ := h
  rw [List.length_append, hp.length_eq]
  omega
theorem told_same {T P l : List Wt} (h : Told T P l) : P.map (·.1) = (T.map (·.1)).take P.length := by
  obtain ⟨R, rfl, hp⟩ := h
  rw [List.map_append, List.take_left' (by rw [List.length_map])]

/-- Two neighbours of what Clear tells. -/
theorem sort_next {zs : List Rd} {n : Nat} {T : List Wt} (hT : T.Perm (rl zs n)) (hs : SortW T) {k : Nat} (hk : k + 1 < n) :
    ∃ i j : Nat, i < n ∧ j < n ∧ HL.el (T.map (·.1)) k = (i : Int) ∧ HL.el (T.map (·.1)) (k + 1) = (j : Int) ∧
      ¬ ((HL.el zs j).2.2 < (HL.el zs i).2.2 ∨ (HL.el zs j).2.2 = (HL.el zs i).2.2 ∧ ((HL.el zs j).2.1 < (HL.el zs i).2.1 ∨ (HL.el zs j).2.1 = (HL.el zs i).2.1 ∧ (j : Int) < (i : Int))) := by
  have hlen : T.length = n := by rw [hT.length_eq, rl_length]
  have h1 : k < T.length := by omega
  have h2 : k + 1 < T.length := by omega
  have hw := List.pairwise_iff_getElem.1 hs k (k + 1) h1 h2 (by omega)
  have m1 := hT.subset (List.getElem_mem h1)
  have m2 := hT.subset (List.getElem_mem h2)
  obtain ⟨i, hi, ei⟩ := mem_rl m1
  obtain ⟨j, hj, ej⟩ := mem_rl m2
  have el1 : HL.el (T.map (·.1)) k = (i : Int) := by
    have := HL.el_eq (T.map (·.1)) k (by rw [List.length_map]; exact h1)
    rw [List.getElem?_map, List.getElem?_eq_getElem h1, ei] at this
    injection this with this
    exact this.symm
  have el2 : HL.el (T.map (·.1)) (k + 1) = (j : Int) := by
    have := HL.el_eq (T.map (·.1)) (k + 1) (by rw [List.length_map]; exact h2)
    rw [List.getElem?_map, List.getElem?_eq_getElem h2, ej] at this
    injection this with this
    exact this.symm
  refine ⟨i, j, hi, hj, el1, el2, ?_⟩
  rw [ei, ej, wlt_false] at hw
  simp only at hw
  omega

theorem i64_le {n : Int} (h : i64ok n) : n ≤ big := by
  have h2 := of_decide_eq_true (Bool.and_eq_true_iff.1 h).2
  have e : IntKind.max .i64 = big := by decide
  rw [e] at h2
  exact h2

/-- Indexes are ints. -/
theorem rl_small {zs : List Rd} {n : Nat} (hz : ∀ z ∈ zs, rdok z) (hn : zs.length = n) : ∀ x ∈ rl zs n, x.2.1 ≤ big := by
  intro x hx
  obtain ⟨j, hj, rfl⟩ := mem_rl hx
  have := (hz _ (HL.el_mem zs j (by omega))).2.1
  exact i64_le this
end Go.Proofs.Ytjpmebfegpmccaa
