/- Plain facts on a change of members: no program in sight. -/
import Derived.Test.YtmfidemkmmbioaaConfC
import Derived.Test.YtmfidemkmmbioaaConfN
namespace Go.Proofs.Ytmfidemkmmbioaa
namespace CL

theorem near_of {a b : List Int} {x : Int} (hb : Up b) (hx : x ∉ a) (hp : b.Perm (x :: a)) : near a b = true ∧ near b a = true := by
  have hm : ∀ y, y ∈ b ↔ y = x ∨ y ∈ a := fun y => by rw [hp.mem_iff, List.mem_cons]
  have h1 : nrm (a ++ b) = b := up_ext (nrm_up _) hb (fun y => by rw [nrm_mem, List.mem_append, hm]; exact ⟨fun h => h.elim .inr id, .inr⟩)
  have h2 : nrm (b ++ a) = b := up_ext (nrm_up _) hb (fun y => by rw [nrm_mem, List.mem_append, hm]; exact ⟨fun h => h.elim id .inr, .inl⟩)
  have hxb : x ∈ b := (hm x).2 (.inl rfl)
  have z1 : ∀ f : Int → Bool, f x = true → (∀ y, y ∈ a → f y = false) → (b.filter f).length = 1 := by
    intro f f1 f2
    rw [(hp.filter f).length_eq, List.filter_cons, if_pos f1]
    have : a.filter f = [] := by
      rw [List.filter_eq_nil_iff]
      intro y hy
      rw [f2 y hy]
      decide
    rw [this]
    rfl
  constructor
  · unfold near odd
    rw [h1, z1 _ (by simp [hx, hxb]) (fun y hy => by have := (hm y).2 (.inr hy); simp [hy, this])]
    rfl
  · unfold near odd
    rw [h2, z1 _ (by simp [hx, hxb]) (fun y hy => by have := (hm y).2 (.inr hy); simp [hy, this])]
    rfl

theorem up_filter {l : List Int} (h : Up l) (f : Int → Bool) : Up (l.filter f) := List.Pairwise.filter f h

theorem change_law {zs l : List Int} {add : Bool} {id : Int} (hv : Valid zs) (hc : change zs add id = some l) :
    Valid l ∧ near zs l = true ∧ near l zs = true ∧ change l (!add) id = some zs ∧ ((∃ x, l.Perm (x :: zs)) ∨ ∃ x, zs.Perm (x :: l)) := by
  have hu := hv.up
  have hn := nrm_of_up hu
  have h1 := hv.1
  have h9 := hv.2.1
  unfold change at hc
  by_cases hid : isId id = false
  · rw [if_pos hid] at hc; cases hc
  have hid' : isId id = true := by simpa using hid
  rw [if_neg hid] at hc
  cases add with
  | true =>
    rw [if_pos rfl] at hc
    by_cases hin : id ∈ zs
    · rw [if_pos hin] at hc; cases hc
    rw [if_neg hin, hn] at hc
    by_cases h9' : 9 ≤ zs.length
    · rw [if_pos h9'] at hc; cases hc
    rw [if_neg h9'] at hc
    injection hc with hc
    have hul : Up l := by rw [← hc]; exact nrm_up _
    have hm : ∀ y, y ∈ l ↔ y = id ∨ y ∈ zs := fun y => by rw [← hc, nrm_mem, List.mem_append, List.mem_singleton]; exact Or.comm
    have hp : l.Perm (id :: zs) := perm_add hu hul hin hm
    have hlen : l.length = zs.length + 1 := by rw [hp.length_eq]; rfl
    obtain ⟨n1, n2⟩ := near_of hul hin hp
    refine ⟨valid_of (by omega) (by omega) hul (fun y hy => ?_), n1, n2, ?_, .inl ⟨id, hp⟩⟩
    · rcases (hm y).1 hy with e | e
      · rw [e]; exact hid'
      · exact hv.id y e
    · unfold change
      have hil : id ∈ l := (hm id).2 (.inl rfl)
      rw [if_neg hid, if_neg (by decide), if_neg (fun h => h hil), nrm_of_up hul, if_neg (by omega)]
      congr 1
      refine up_ext (up_filter hul _) hu (fun y => ?_)
      rw [List.mem_filter, hm]
      constructor
      · rintro ⟨e | e, h⟩
        · subst e; simp at h
        · exact e
      · intro e
        refine ⟨.inr e, ?_⟩
        have : y ≠ id := fun h => hin (h ▸ e)
        simpa using this
  | false =>
    rw [if_neg (by decide)] at hc
    by_cases hin : id ∉ zs
    · rw [if_pos hin] at hc; cases hc
    have hin' : id ∈ zs := Classical.byContradiction hin
    rw [if_neg hin, hn] at hc
    by_cases h1' : zs.length = 1
    · rw [if_pos h1'] at hc; cases hc
    rw [if_neg h1'] at hc
    injection hc with hc
    have hul : Up l := by rw [← hc]; exact up_filter hu _
    have hm : ∀ y, y ∈ l ↔ y ∈ zs ∧ y ≠ id := fun y => by rw [← hc, List.mem_filter]; simp
    have hnl : id ∉ l := fun h => ((hm id).1 h).2 rfl
    have hp : zs.Perm (id :: l) := perm_add hul hu hnl (fun y => by
      rw [hm]
      constructor
      · intro h
        by_cases e : y = id
        · exact .inl e
        · exact .inr ⟨h, e⟩
      · rintro (e | e)
        · rw [e]; exact hin'
        · exact e.1)
    have hlen : zs.length = l.length + 1 := by rw [hp.length_eq]; rfl
    obtain ⟨n1, n2⟩ := near_of hu hnl hp
    refine ⟨valid_of (by omega) (by omega) hul (fun y hy => hv.id y ((hm y).1 hy).1), n2, n1, ?_, .inr ⟨id, hp⟩⟩
    unfold change
    rw [if_neg hid, if_pos (by decide), if_neg hnl, nrm_of_up hul, if_neg (by omega)]
    congr 1
    refine up_ext (nrm_up _) hu (fun y => ?_)
    rw [nrm_mem, List.mem_append, List.mem_singleton, hm]
    constructor
    · rintro (e | e)
      · exact e.1
      · rw [e]; exact hin'
    · intro h
      by_cases e : y = id
      · exact .inr e
      · exact .inl ⟨h, e⟩
end CL
end Go.Proofs.Ytmfidemkmmbioaa
