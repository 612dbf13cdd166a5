/- arboretumref1's and arboretumref16's numbers: plain facts. No program in sight. -/
import Derived.Test.YtmfidemkmmbioaaGreatConfC
import Derived.Test.YtmfidemkmmbioaaGreatConfW
import Derived.Test.YtmfidemkmmbioaaGreatConfR
import Derived.Test.YtmfidemkmmbioaaGreatConfN
namespace Go.Proofs.YtmfidemkmmbioaaGreat
namespace CL

/-- A number put into rising ones. -/
def ins (l : List Int) (v : Int) : List Int := l.takeWhile (fun x => decide (x ≤ v)) ++ v :: l.dropWhile (fun x => decide (x ≤ v))
def insAt (l : List Int) (v : Int) : Nat := (l.takeWhile (fun x => decide (x ≤ v))).length

theorem take_insAt : ∀ (l : List Int) (v : Int), l.take (insAt l v) = l.takeWhile (fun x => decide (x ≤ v)) ∧ l.drop (insAt l v) = l.dropWhile (fun x => decide (x ≤ v))
  | [], _ => ⟨rfl, rfl⟩
  | x :: l, v => by
    have ih := take_insAt l v
    unfold insAt at ih ⊢
    by_cases h : x ≤ v
    · simp only [List.takeWhile_cons, List.dropWhile_cons, decide_eq_true h, if_true, List.length_cons, List.take_succ_cons, List.drop_succ_cons]
      exact ⟨by rw [ih.1], ih.2⟩
    · simp [decide_eq_false h]

theorem insAt_le (l : List Int) (v : Int) : insAt l v ≤ l.length := List.takeWhile_sublist _ |>.length_le

theorem insAt_of {l : List Int} {v : Int} {k : Nat} (hk : k ≤ l.length) (h : ∀ i, i < k → HL.el l i ≤ v) (hn : k < l.length → ¬ HL.el l k ≤ v) : insAt l v = k := by
  induction l generalizing k with
  | nil => simp at hk; subst hk; rfl
  | cons x l ih =>
    unfold insAt at *
    cases k with
    | zero =>
      have : ¬ x ≤ v := hn (by simp)
      simp [decide_eq_false this]
    | succ k =>
      have h0 : x ≤ v := h 0 (by omega)
      simp only [List.takeWhile_cons, decide_eq_true h0, if_true, List.length_cons]
      rw [ih (k := k) (by simpa using hk) (fun i hi => h (i + 1) (by omega)) (fun hk' => hn (by simpa using hk'))]

theorem ins_eq (l : List Int) (v : Int) : ins l v = l.take (insAt l v) ++ v :: l.drop (insAt l v) := by
  rw [(take_insAt l v).1, (take_insAt l v).2]; rfl

theorem ins_length (l : List Int) (v : Int) : (ins l v).length = l.length + 1 := by
  rw [ins_eq, List.length_append, List.length_cons, List.length_take, List.length_drop]
  have := insAt_le l v
  omega

theorem ins_perm (l : List Int) (v : Int) : (ins l v).Perm (v :: l) := by
  rw [ins_eq]
  refine List.perm_middle.trans ?_
  rw [List.take_append_drop]

theorem ins_mem {l : List Int} {v x : Int} : x ∈ ins l v ↔ x = v ∨ x ∈ l := by
  rw [(ins_perm l v).mem_iff, List.mem_cons]

theorem dropWhile_gt {l : List Int} {v : Int} (h : l.Pairwise (· ≤ ·)) : ∀ x ∈ l.dropWhile (fun x => decide (x ≤ v)), v < x := by
  induction l with
  | nil => simp
  | cons y l ih =>
    have hp := List.pairwise_cons.1 h
    by_cases hy : y ≤ v
    · simp only [List.dropWhile_cons, decide_eq_true hy, if_true]
      exact ih hp.2
    · simp only [List.dropWhile_cons, decide_eq_false hy]
      intro x hx
      rcases List.mem_cons.1 hx with e | e
      · omega
      · have := hp.1 x e; omega

theorem takeWhile_le {l : List Int} {v : Int} : ∀ x ∈ l.takeWhile (fun x => decide (x ≤ v)), x ≤ v := by
  intro x hx
  induction l with
  | nil => simp at hx
  | cons y l ih =>
    by_cases hy : y ≤ v
    · simp only [List.takeWhile_cons, decide_eq_true hy, if_true] at hx
      rcases List.mem_cons.1 hx with e | e
      · omega
      · exact ih e
    · simp [decide_eq_false hy] at hx

theorem ins_sorted {l : List Int} {v : Int} (h : l.Pairwise (· ≤ ·)) : (ins l v).Pairwise (· ≤ ·) := by
  unfold ins
  rw [List.pairwise_append, List.pairwise_cons]
  refine ⟨h.sublist (List.takeWhile_sublist _), ⟨fun x hx => by have := dropWhile_gt h x hx; omega, h.sublist (List.dropWhile_sublist _)⟩, ?_⟩
  intro a ha b hb
  have h1 := takeWhile_le a ha
  rcases List.mem_cons.1 hb with e | e
  · omega
  · have := dropWhile_gt h b e; omega

theorem srt_ins (l : List Int) (v : Int) : srt (l ++ [v]) = ins (srt l) v :=
  srt_unique ((srt_perm _).trans (List.perm_append_comm.trans (((List.Perm.cons v (srt_perm l)).symm).trans (ins_perm _ v).symm))) (srt_sorted _) (ins_sorted (srt_sorted l))

theorem ins_up {l : List Int} {v : Int} (h : Up l) (hv : v ∉ l) : Up (ins l v) := by
  have hs := ins_sorted (v := v) (h.imp (fun h => by omega : ∀ {a b : Int}, a < b → a ≤ b))
  have hn : (ins l v).Nodup := (ins_perm l v).nodup_iff.2 (List.nodup_cons.2 ⟨hv, up_nodup h⟩)
  unfold Up
  exact (hs.and hn).imp (fun ⟨h1, h2⟩ => by omega)

theorem nrm_succ {zs : List Int} {k : Nat} (hk : k < zs.length) : nrm (zs.take (k + 1)) = if HL.el zs k ∈ nrm (zs.take k) then nrm (zs.take k) else ins (nrm (zs.take k)) (HL.el zs k) := by
  have hm : ∀ x, x ∈ zs.take (k + 1) ↔ x ∈ zs.take k ∨ x = HL.el zs k := fun x => by rw [take_succ_el hk]; simp
  by_cases h : HL.el zs k ∈ nrm (zs.take k)
  · rw [if_pos h]
    exact nrm_ext (fun x => by
      rw [hm]
      constructor
      · rintro (h1 | rfl)
        · exact h1
        · exact nrm_mem.1 h
      · exact .inl)
  · rw [if_neg h]
    exact up_ext (nrm_up _) (ins_up (nrm_up _) h) (fun x => by
      rw [nrm_mem, hm, ins_mem, nrm_mem]
      constructor
      · rintro (h1 | rfl)
        · exact .inr h1
        · exact .inl rfl
      · rintro (rfl | h1)
        · exact .inr rfl
        · exact .inl h1)

theorem nrm_put {l : List Int} {id : Int} (h : id ∉ l) : nrm (nrm l ++ [id]) = ins (nrm l) id :=
  up_ext (nrm_up _) (ins_up (nrm_up _) (fun h' => h (nrm_mem.1 h'))) (fun x => by
    rw [nrm_mem, ins_mem, List.mem_append, List.mem_singleton]
    exact ⟨fun h => h.symm, fun h => h.symm⟩)

/-- What Drop leaves. -/
theorem drop_at {l : List Int} {v : Int} (h : Up l) {i : Nat} (hi : i < l.length) (hv : HL.el l i = v) : l.take i ++ l.drop (i + 1) = l.filter (fun x => !(x == v)) := by
  have hn := up_nodup h
  have he : l[i]? = some v := by rw [HL.el_eq l i hi, hv]
  have hsp : l = l.take i ++ v :: l.drop (i + 1) := by
    rw [← List.getElem?_eq_some_iff.1 he |>.2]
    rw [← List.drop_eq_getElem_cons, List.take_append_drop]
  generalize ha : l.take i = a at *
  generalize hb : l.drop (i + 1) = b at *
  subst hsp
  rw [List.nodup_append, List.nodup_cons] at hn
  rw [List.filter_append, List.filter_cons]
  simp only [beq_self_eq_true, Bool.not_true, Bool.false_eq_true, if_false]
  congr 1
  · rw [List.filter_eq_self.2]
    intro x hx
    have := hn.2.2 x hx v (by simp)
    simpa using this
  · rw [List.filter_eq_self.2]
    intro x hx
    have : v ≠ x := fun e => hn.2.1.1 (e ▸ hx)
    simpa using fun e => this e.symm

/-- An error's code of Change. -/
def chCode (zs : List Int) (add : Bool) (id : Int) : Int :=
  if isId id = false then 1
  else if add = true then (if id ∈ zs then 8 else if 9 ≤ (nrm zs).length then 10 else 0)
  else (if id ∉ zs then 7 else if (nrm zs).length = 1 then 20 else 0)
/-- What Change tells, an error or not. -/
def chRow (zs : List Int) (add : Bool) (id : Int) : List Int := (change zs add id).getD []

/-- Near, the other way to count. -/
theorem odd_two (zs us : List Int) : odd zs us (nrm (zs ++ us)) = ((nrm zs).filter (fun x => !decide (x ∈ nrm us))).length + ((nrm us).filter (fun x => !decide (x ∈ nrm zs))).length := by
  unfold odd
  have hl : ∀ (a : List Int) (b : List Int), Up a → Up b → (∀ x, x ∈ a ↔ x ∈ b) → a.length = b.length := fun a b ha hb h => by rw [up_ext ha hb h]
  have hx : (nrm ((nrm zs).filter (fun x => !decide (x ∈ nrm us)) ++ (nrm us).filter (fun x => !decide (x ∈ nrm zs)))).length = ((nrm zs).filter (fun x => !decide (x ∈ nrm us)) ++ (nrm us).filter (fun x => !decide (x ∈ nrm zs))).length := by
    have hnd : ((nrm zs).filter (fun x => !decide (x ∈ nrm us)) ++ (nrm us).filter (fun x => !decide (x ∈ nrm zs))).Nodup := by
      rw [List.nodup_append]
      refine ⟨(up_nodup (nrm_up zs)).filter _, (up_nodup (nrm_up us)).filter _, ?_⟩
      intro a ha b hb e
      subst e
      have h1 := (List.mem_filter.1 ha)
      have h2 := (List.mem_filter.1 hb)
      simp at h1 h2
      exact h1.2 h2.1
    generalize ((nrm zs).filter (fun x => !decide (x ∈ nrm us)) ++ (nrm us).filter (fun x => !decide (x ∈ nrm zs))) = l at *
    have h1 : (nrm l).Perm l := (List.perm_ext_iff_of_nodup (up_nodup (nrm_up l)) hnd).2 (fun x => nrm_mem)
    exact h1.length_eq
  rw [← List.length_append, ← hx]
  refine hl _ _ ((nrm_up _).sublist List.filter_sublist) (nrm_up _) (fun x => ?_)
  rw [nrm_mem, List.mem_append, List.mem_filter, List.mem_filter, List.mem_filter]
  simp only [nrm_mem, List.mem_append]
  by_cases h1 : x ∈ zs <;> by_cases h2 : x ∈ us <;> simp [h1, h2]
end CL
end Go.Proofs.YtmfidemkmmbioaaGreat
