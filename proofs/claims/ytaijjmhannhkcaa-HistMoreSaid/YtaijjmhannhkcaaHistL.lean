/- Chapter 30, the plain law: may events stand in an order? No program in sight. -/
import Derived.Lib.Hide
namespace Go.Proofs.Ytaijjmhannhkcaa

structure Ev where
  client : Int
  num : Int
  kind : Int
  sess : Int
  sq : Int
  key : ByteArray
  val : ByteArray
  old : ByteArray
  err : Int
  rval : ByteArray
  rnum : Int
  frm : Int
  to : Int
  done : Bool
instance : Inhabited Ev := ⟨⟨0, 0, 0, 0, 0, ByteArray.empty, ByteArray.empty, ByteArray.empty, 0, ByteArray.empty, 0, 0, 0, false⟩⟩

/-- A key's state. -/
abbrev HSt := Bool × ByteArray
def hst0 : HSt := (false, ByteArray.empty)
def sureR (err : Int) : Bool := err == 0 || (err == 7 || err == 26)
def Ev.sure (e : Ev) : Bool := e.done && sureR e.err
/-- What an operation does, and its reply. -/
def doE (s : HSt) (e : Ev) : HSt × (Int × ByteArray) :=
  if e.kind = 1 then ((true, e.val), (0, ByteArray.empty))
  else if s.1 = false then (s, (7, ByteArray.empty))
  else if e.kind = 4 then (s, (0, s.2))
  else if e.kind = 2 then ((false, ByteArray.empty), (0, ByteArray.empty))
  else if s.2 ≠ e.old then (s, (26, s.2))
  else ((true, e.val), (0, ByteArray.empty))

/-- From U done and state s on there is an order of those of I. -/
inductive Ord (E : Nat → Ev) (I : Nat → Prop) : (Nat → Prop) → HSt → Prop
  | fin {U : Nat → Prop} {s : HSt} (h : ∀ i, I i → (E i).sure = true → U i) : Ord E I U s
  | step {U : Nat → Prop} {s : HSt} (i : Nat) (hI : I i) (hU : ¬ U i) (hm : ∀ j, I j → (E j).sure = true → ¬ U j → j ≠ i → ¬ (E j).to < (E i).frm)
      (hr : (E i).sure = true → (doE s (E i)).2 = ((E i).err, (E i).rval)) (h : Ord E I (fun j => U j ∨ j = i) (doE s (E i)).1) : Ord E I U s

theorem doE_same {s : HSt} {e e' : Ev} (hk : e'.kind = e.kind) (hv : e'.val = e.val) (ho : e'.old = e.old) : doE s e' = doE s e := by
  unfold doE
  rw [hk, hv, ho]
theorem sure_same {e e' : Ev} (hd : e'.done = e.done) (he : e'.err = e.err) : e'.sure = e.sure := by
  unfold Ev.sure
  rw [hd, he]

/-- What differs in its times alone. -/
structure EvW (e e' : Ev) : Prop where
  kind : e'.kind = e.kind
  val : e'.val = e.val
  old : e'.old = e.old
  err : e'.err = e.err
  rval : e'.rval = e.rval
  done : e'.done = e.done
  frm : e'.frm ≤ e.frm
  to : e.to ≤ e'.to
theorem EvW.refl (e : Ev) : EvW e e := ⟨rfl, rfl, rfl, rfl, rfl, rfl, Int.le_refl _, Int.le_refl _⟩
/-- Events that take longer may stand in an order still. -/
theorem Ord.more {E E' : Nat → Ev} {I : Nat → Prop} (hw : ∀ i, I i → EvW (E i) (E' i)) {U : Nat → Prop} {s : HSt} (h : Ord E I U s) : Ord E' I U s := by
  induction h with
  | fin h => exact .fin (fun i hi hs => h i hi (by rw [← hs]; exact (sure_same (hw i hi).done (hw i hi).err).symm))
  | @step U s i hI hU hm hr _ ih =>
    have wi := hw i hI
    have hd := doE_same (s := s) wi.kind wi.val wi.old
    refine .step i hI hU (fun j hj hs hUj hji hlt => ?_) (fun hs => ?_) ?_
    · have wj := hw j hj
      refine hm j hj (by rw [← hs]; exact (sure_same wj.done wj.err).symm) hUj hji ?_
      have := wj.to
      have := wi.frm
      omega
    · rw [hd, wi.err, wi.rval]
      exact hr (by rw [← hs]; exact (sure_same wi.done wi.err).symm)
    · rw [hd]
      exact ih

/-- The events may be numbered otherwise. -/
theorem Ord.sim {E E' : Nat → Ev} {I I' : Nat → Prop} (f : Nat → Nat) (hf : ∀ i, I i → I' (f i)) (hsur : ∀ j, I' j → ∃ i, I i ∧ f i = j) (hinj : ∀ i j, I i → I j → f i = f j → i = j) (hE : ∀ i, I i → E' (f i) = E i) {U : Nat → Prop} {s : HSt} (h : Ord E I U s) :
    ∀ U' : Nat → Prop, (∀ i, I i → (U' (f i) ↔ U i)) → Ord E' I' U' s := by
  induction h with
  | fin h =>
    intro U' hU'
    refine .fin (fun j hj hs => ?_)
    obtain ⟨i, hi, rfl⟩ := hsur j hj
    rw [hE i hi] at hs
    exact (hU' i hi).2 (h i hi hs)
  | step i hI hU hm hr _ ih =>
    intro U' hU'
    refine .step (f i) (hf i hI) (fun h => hU ((hU' i hI).1 h)) (fun j hj hs hUj hji => ?_) (fun hs => ?_) ?_
    · obtain ⟨j0, hj0, rfl⟩ := hsur j hj
      rw [hE j0 hj0] at hs ⊢
      rw [hE i hI]
      exact hm j0 hj0 hs (fun h => hUj ((hU' j0 hj0).2 h)) (fun e => hji (by rw [e]))
    · rw [hE i hI] at hs ⊢
      exact hr hs
    · rw [hE i hI]
      refine ih _ (fun j hj => ?_)
      constructor
      · rintro (h | h)
        · exact .inl ((hU' j hj).1 h)
        · exact .inr (hinj j i hj hI h)
      · rintro (h | h)
        · exact .inl ((hU' j hj).2 h)
        · exact .inr (by rw [h])

/-- Of events in a list, those of ids. -/
def OrdL (E : Nat → Ev) (ids : List Nat) : Prop := Ord (fun b => E (ids.getD b 0)) (fun b => b < ids.length) (fun _ => False) hst0
theorem ordL_iff {E : Nat → Ev} {ids : List Nat} {I : Nat → Prop} (hn : ids.Nodup) (hm : ∀ i, i ∈ ids ↔ I i) : OrdL E ids ↔ Ord E I (fun _ => False) hst0 := by
  have key : ∀ b, b < ids.length → ids.getD b 0 ∈ ids := fun b hb => by
    simp [List.getD, List.getElem?_eq_getElem hb]
  have hget : ∀ b (hb : b < ids.length), ids.getD b 0 = ids[b] := fun b hb => by simp [List.getD, List.getElem?_eq_getElem hb]
  constructor
  · intro h
    refine h.sim (fun b => ids.getD b 0) (fun b hb => (hm _).1 (key b hb)) (fun j hj => ?_) (fun a b ha hb e => ?_) (fun b _ => rfl) _ (fun _ _ => Iff.rfl)
    · obtain ⟨b, hb, e⟩ := List.mem_iff_getElem.1 ((hm j).2 hj)
      exact ⟨b, hb, by show ids.getD b 0 = j; rw [hget b hb, e]⟩
    · have e : ids.getD a 0 = ids.getD b 0 := e
      rw [hget a ha, hget b hb] at e
      exact (List.getElem_inj hn).1 e
  · intro h
    refine h.sim (fun i => ids.idxOf i) (fun i hi => List.idxOf_lt_length_of_mem ((hm i).2 hi)) (fun b hb => ?_) (fun i j hi hj e => ?_) (fun i hi => ?_) _ (fun _ _ => Iff.rfl)
    · exact ⟨ids.getD b 0, (hm _).1 (key b hb), by
        show ids.idxOf (ids.getD b 0) = b
        rw [hget b hb]
        exact hn.idxOf_getElem b hb⟩
    · have e : ids.idxOf i = ids.idxOf j := e
      have hi' := (hm i).2 hi
      have hj' := (hm j).2 hj
      have e1 := List.getElem_idxOf (List.idxOf_lt_length_of_mem hi')
      have e2 := List.getElem_idxOf (List.idxOf_lt_length_of_mem hj')
      rw [← e1, ← e2]
      simp only [e]
    · have hi' := (hm i).2 hi
      show E (ids.getD (ids.idxOf i) 0) = E i
      rw [hget _ (List.idxOf_lt_length_of_mem hi'), List.getElem_idxOf]
end Go.Proofs.Ytaijjmhannhkcaa
