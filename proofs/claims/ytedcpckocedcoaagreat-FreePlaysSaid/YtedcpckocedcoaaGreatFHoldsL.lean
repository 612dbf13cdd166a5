/- arboretumlaw6.FreeHolds: the pins as a bag of numbers. -/
import Derived.Test.YtedcpckocedcoaaGreatFAlive
namespace Go.Proofs.YtedcpckocedcoaaGreat
open Go.RowKit Go.Maps

def IntD (D : DU) : Prop := ∃ es, D = .map es ∧ ∀ p ∈ es, ∃ x, p.1 = .int .i64 x

theorem mem_insert_of {H : Type} {x p : Lit × DataW H} : ∀ {l : List (Lit × DataW H)}, p ∈ DataW.insert x l → p = x ∨ p ∈ l
  | [], h => by
    simp only [DataW.insert, List.mem_singleton] at h
    exact .inl h
  | y :: r, h => by
    unfold DataW.insert at h
    split at h
    · rcases List.mem_cons.1 h with h | h
      · exact .inl h
      · exact .inr h
    · rcases List.mem_cons.1 h with h | h
      · exact .inr (by rw [h]; exact List.mem_cons_self)
      · exact (mem_insert_of h).imp id (List.mem_cons_of_mem _)

theorem IntD.put {D : DU} (h : IntD D) (t : Int) (d : DU) : IntD (D.put (.int .i64 t) d) := by
  obtain ⟨es, rfl, h⟩ := h
  refine ⟨_, rfl, fun p hp => ?_⟩
  rcases mem_insert_of hp with rfl | hp
  · exact ⟨t, rfl⟩
  · exact h p (List.mem_filter.1 hp).1
theorem IntD.del {D : DU} (h : IntD D) (k : Lit) : IntD (D.del k) := by
  obtain ⟨es, rfl, h⟩ := h
  exact ⟨_, rfl, fun p hp => h p (List.mem_filter.1 hp).1⟩
theorem IntD.isMap {D : DU} (h : IntD D) : IsMap D := by
  obtain ⟨es, rfl, _⟩ := h
  exact ⟨es, rfl⟩
theorem mem_intKeys {D : DU} (h : IntD D) (x : Int) : x ∈ intKeys D ↔ has D (.int .i64 x) = true := by
  obtain ⟨es, rfl, hk⟩ := h
  rw [has_eq, List.any_eq_true]
  show x ∈ es.map (fun p => _root_.Go.intOf p.1) ↔ _
  rw [List.mem_map]
  constructor
  · rintro ⟨p, hp', rfl⟩
    obtain ⟨a, ha⟩ := hk p hp'
    exact ⟨p, hp', by rw [ha]; simp [Lit.sameKey, _root_.Go.intOf]⟩
  · rintro ⟨p, hp', hs⟩
    obtain ⟨a, ha⟩ := hk p hp'
    rw [ha] at hs
    exact ⟨p, hp', by rw [ha]; simpa [Lit.sameKey, _root_.Go.intOf] using hs⟩

/-- The pins are the bag M. -/
structure PinsR (M : List Int) (D : DU) : Prop where
  int : IntD D
  cnt : ∀ t, D.atKey (.int .i64 t) (litI 0) = litI (M.count t)
  mem : ∀ t, has D (.int .i64 t) = decide (t ∈ M)

theorem PinsR.nil : PinsR [] (.map []) := ⟨⟨[], rfl, fun _ h => by cases h⟩, fun _ => rfl, fun _ => rfl⟩
theorem PinsR.perm {M N : List Int} {D : DU} (h : PinsR M D) (hp : M.Perm N) : PinsR N D :=
  ⟨h.int, fun t => by rw [h.cnt t, hp.count_eq], fun t => by rw [h.mem t]; simp only [hp.mem_iff]⟩
theorem lit_ne {a b : Int} (h : a ≠ b) : (Lit.int .i64 a) ≠ .int .i64 b := fun e => h (by injection e)

theorem PinsR.pin {M : List Int} {D : DU} (h : PinsR M D) (t : Int) : PinsR (t :: M) (D.put (.int .i64 t) (litI (M.count t + 1))) := by
  refine ⟨h.int.put t _, fun u => ?_, fun u => ?_⟩
  · by_cases e : u = t
    · subst e
      rw [atKey_put_same h.int.isMap (keyL u), List.count_cons_self]
      congr 1
    · rw [atKey_put_other (lit_ne e), h.cnt u, List.count_cons_of_ne (fun e2 => e e2.symm)]
  · by_cases e : u = t
    · subst e
      rw [has_put_same h.int.isMap (keyL u)]
      simp
    · rw [has_put_other (lit_ne e), h.mem u]
      simp [e]

theorem count_erase_ne {M : List Int} {t u : Int} (h : u ≠ t) : (M.erase t).count u = M.count u := List.count_erase_of_ne h
theorem PinsR.last {M : List Int} {D : DU} (h : PinsR M D) (t : Int) (hc : M.count t = 1) : PinsR (M.erase t) ((D.put (.int .i64 t) (litI 0)).del (.int .i64 t)) := by
  have hz : (M.erase t).count t = 0 := by rw [List.count_erase_self]; omega
  refine ⟨(h.int.put t _).del _, fun u => ?_, fun u => ?_⟩
  · by_cases e : u = t
    · subst e
      rw [atKey_del_same, hz]
      rfl
    · rw [atKey_del_other (lit_ne e), atKey_put_other (lit_ne e), h.cnt u, count_erase_ne e]
  · by_cases e : u = t
    · subst e
      rw [has_del_same]
      have : u ∉ M.erase u := fun h => by rw [← List.count_pos_iff] at h; omega
      simp [this]
    · rw [has_del_other (lit_ne e), has_put_other (lit_ne e), h.mem u]
      simp [List.mem_erase_of_ne e]
theorem PinsR.more {M : List Int} {D : DU} (h : PinsR M D) (t : Int) (hc : 1 < M.count t) : PinsR (M.erase t) (D.put (.int .i64 t) (litI (M.count t - 1))) := by
  have hz : (M.erase t).count t = M.count t - 1 := List.count_erase_self
  refine ⟨h.int.put t _, fun u => ?_, fun u => ?_⟩
  · by_cases e : u = t
    · subst e
      rw [atKey_put_same h.int.isMap (keyL u), hz]
      congr 1
      omega
    · rw [atKey_put_other (lit_ne e), h.cnt u, count_erase_ne e]
  · by_cases e : u = t
    · subst e
      rw [has_put_same h.int.isMap (keyL u)]
      have : u ∈ M.erase u := by rw [← List.count_pos_iff]; omega
      simp [this]
    · rw [has_put_other (lit_ne e), h.mem u]
      simp [List.mem_erase_of_ne e]

section
variable {fb base : Nat} {l : List Int} {ws : List (Int × Int)} {np : Nat} {D : DU} {F : Nat → Prop} {w w' : World} {M : List Int}

theorem fe_pin_r (t : Int) (ht : (Lit.int .i64 t).wf = true) (h : Fe fb base l ws np D F w) (hM : PinsR M D) (hn : np < 1000000) (hml : M.length < 1000000) :
    Calls Tryz.prog 16 #[.pointer (some ⟨fb, 0, none⟩), .int .i64 t] w fun e w' => e = .returned (.tuple #[]) ∧ ∃ D' F', PinsR (t :: M) D' ∧ Fe fb base l ws (np + 1) D' F' w' ∧ Step F F' w w' := by
  refine (fe_pin t ht h hn).mono ?_
  rintro e w' ⟨he, c, F', hat, hI, hS⟩
  have hc : c = (M.count t : Int) := (litI_inj ((hM.cnt t).symm.trans hat)).symm
  have hle := List.count_le_length (a := t) (l := M)
  rw [hc, show wrap64 ((M.count t : Int) + 1) = (M.count t : Int) + 1 by unfold wrap64; omega] at hI
  exact ⟨he, _, F', hM.pin t, hI, hS⟩

theorem fe_unpin_r (t : Int) (ht : (Lit.int .i64 t).wf = true) (h : Fe fb base l ws np D F w) (hM : PinsR M D) (hn : np < 1000000) (hml : M.length < 1000000) (hmem : t ∈ M) :
    Calls Tryz.prog 18 #[.pointer (some ⟨fb, 0, none⟩), .int .i64 t] w fun e w' => e = .returned (.bool true) ∧ ∃ D' F', PinsR (M.erase t) D' ∧ Fe fb base l ws (np + 1) D' F' w' ∧ Step F F' w w' := by
  have hle := List.count_le_length (a := t) (l := M)
  have hpos : 0 < M.count t := List.count_pos_iff.2 hmem
  rcases Nat.lt_or_ge 1 (M.count t) with h1 | h1
  · obtain ⟨v, vw, vp, h, rfl⟩ := h
    rcases h.pins with ⟨rfl, rfl⟩ | ⟨b, rfl, hb, ho⟩
    · exact absurd (hM.cnt t) (fun e => by
        have e2 : (litI 0 : DU) = litI (M.count t) := e
        have := litI_inj e2
        omega)
    · refine (unpin_more t (M.count t) ht h.c2 ho hn (fun e => h.apart2 (.inl rfl) (by rw [e])) (hM.cnt t) (by omega) (by omega)).mono ?_
      rintro e w' ⟨he, ho', hF⟩
      exact ⟨he, _, _, hM.more t h1, ⟨v, vw, _, h.pinned ho' hF, rfl⟩, hF.mono (fun i _ hi => .inr (.inr (.inr (by rw [show i = b from hi])))), fun k hk => .inl hk⟩
  · have hc1 : M.count t = 1 := by omega
    refine (fe_unpin_last t ht h hn (by rw [hM.cnt t, hc1]; rfl)).mono ?_
    rintro e w' ⟨he, F', hI, hS⟩
    exact ⟨he, _, F', hM.last t hc1, hI, hS⟩

/-- How far the pins reach. -/
theorem PinsR.min {pinned : Bool} {border : Int} (hM : PinsR M D) (h : PinMin D pinned border) : (pinned = false ∧ M = []) ∨ (pinned = true ∧ border ∈ M ∧ ∀ x ∈ M, border ≤ x) := by
  have hk : ∀ x, x ∈ intKeys D ↔ x ∈ M := fun x => by rw [mem_intKeys hM.int, hM.mem]; simp
  rcases h with ⟨h1, h2⟩ | ⟨h1, h2, h3⟩
  · refine .inl ⟨h1, List.eq_nil_iff_forall_not_mem.2 (fun x hx => ?_)⟩
    have := (hk x).2 hx
    rw [h2] at this
    cases this
  · exact .inr ⟨h1, (hk _).1 h2, fun x hx => h3 x ((hk x).2 hx)⟩
end
end Go.Proofs.YtedcpckocedcoaaGreat
