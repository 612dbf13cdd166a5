/- free's Free as a whole. -/
import Derived.Test.YtedcpckocedcoaaGreatB2
import Derived.Test.YtedcpckocedcoaaGreatB1
import Derived.Test.YtedcpckocedcoaaGreatSorted
import Derived.Maps.OwnSet
import Derived.Maps.Keyed
namespace Go.Proofs.YtedcpckocedcoaaGreat
open Go.RowKit

/-- What waits: the transaction's number, the page. -/
def wtcells (x : Int × Int) : List Value := [.int .i64 x.1, .int .i64 x.2]
theorem wtcells_length (x : Int × Int) : (wtcells x).length = 2 := rfl

abbrev DU := DataW Unit
/-- The map of pins. -/
def PinsI (base : Nat) (vp : Value) (n : Nat) (D : DU) (w : World) : Prop :=
  (vp = .map none ∧ D = .map []) ∨ ∃ b, vp = .map (some b) ∧ base ≤ b ∧ w.ownsMap Tryz.prog 3 (plainElem Tryz.prog 3) b n D

/-- Block fb is a Free: the pile's numbers l, what waits, the pins. -/
structure FrI (fb base : Nat) (v vw vp : Value) (l : List Int) (ws : List (Int × Int)) (n : Nat) (D : DU) (w : World) : Prop where
  pile : PileI fb base v l w
  c1 : w.cell? ⟨fb, 1, none⟩ = some vw
  f1 : w.frozen? ⟨fb, 1, none⟩ = false
  row : w.ownsRow base 81 2 vw ws.length (rowOf wtcells ws)
  n1 : vw.ownBlock ≠ some fb
  c2 : w.cell? ⟨fb, 2, none⟩ = some vp
  f2 : w.frozen? ⟨fb, 2, none⟩ = false
  pins : PinsI base vp n D w
  few : ws.length ≤ 1000000
  fbb : base ≤ fb

def freeF (fb : Nat) (v vw vp : Value) (k : Nat) : Prop := k = fb ∨ v.ownBlock = some k ∨ vw.ownBlock = some k ∨ vp = .map (some k)

theorem row_block {w : World} {base : Nat} {e : TypeId} {size n g : Nat} {v : Value} {xs : List Value} (h : w.ownsRow base e size v n xs) (hg : v.ownBlock = some g) : ∃ cur, w.heap[g]? = some (.cells cur e (0, 0)) ∧ base ≤ g := by
  rcases h.2 with ⟨rfl, _⟩ | ⟨g', cap, cur, rfl, hb, hh, _⟩
  · cases hg
  · injection hg with hg
    have : g' = g := hg
    subst this
    exact ⟨cur, hh, hb⟩
theorem map_block {w : World} {k : TypeId} {R : Value → Option (DU × List MemPlace)} {b n : Nat} {D : DU} (h : w.ownsMap Tryz.prog k R b n D) : ∃ es clock, w.heap[b]? = some (.map es clock) := by
  obtain ⟨es, clock, hb, _⟩ := h
  exact ⟨es, clock, hb⟩
theorem own_fr {w w' : World} {k : TypeId} {R : Value → Option (DU × List MemPlace)} {b n : Nat} {D : DU} {S : Nat → Prop} (h : w.ownsMap Tryz.prog k R b n D) (hF : Fr S w w') (hS : ¬ S b) : w'.ownsMap Tryz.prog k R b n D := by
  have hlt := h.lt
  obtain ⟨es, clock, hb, hr⟩ := h
  exact ⟨es, clock, (hF.block b hlt hS).trans hb, hr⟩
theorem cell_is_cells {w : World} {b o : Nat} {v : Value} (h : w.cell? ⟨b, o, none⟩ = some v) : ∃ cur e fz, w.heap[b]? = some (.cells cur e fz) := by
  unfold World.cell? at h
  cases hb : w.heap[b]? with
  | none => simp [hb] at h
  | some ob =>
    cases ob with
    | cells cur e fz => exact ⟨cur, e, fz, rfl⟩
    | _ => simp [hb] at h

section
variable {fb base : Nat} {v vw vp : Value} {l : List Int} {ws : List (Int × Int)} {n : Nat} {D : DU} {w w' : World}
theorem FrI.lt (h : FrI fb base v vw vp l ws n D w) : ∀ k, freeF fb v vw vp k → k < w.heap.size := fun k hk => by
  rcases hk with rfl | hk | hk | hk
  · exact cell_lt h.c1
  · obtain ⟨cur, hb, _⟩ := row_block h.pile.1.2.2.1 hk
    exact (Array.getElem?_eq_some_iff.1 hb).1
  · obtain ⟨cur, hb, _⟩ := row_block h.row hk
    exact (Array.getElem?_eq_some_iff.1 hb).1
  · rcases h.pins with ⟨e, _⟩ | ⟨b, e, _, ho⟩
    · rw [e] at hk; cases hk
    · rw [e] at hk; injection hk with hk; injection hk with hk; subst hk; exact ho.lt
theorem FrI.ge (h : FrI fb base v vw vp l ws n D w) : ∀ k, freeF fb v vw vp k → base ≤ k := fun k hk => by
  rcases hk with rfl | hk | hk | hk
  · exact h.fbb
  · obtain ⟨_, _, hb⟩ := row_block h.pile.1.2.2.1 hk
    exact hb
  · obtain ⟨_, _, hb⟩ := row_block h.row hk
    exact hb
  · rcases h.pins with ⟨e, _⟩ | ⟨b, e, hb, ho⟩
    · rw [e] at hk; cases hk
    · rw [e] at hk; injection hk with hk; injection hk with hk; subst hk; exact hb
/-- The pile's numbers lie apart from what waits. -/
theorem FrI.apart1 (h : FrI fb base v vw vp l ws n D w) {g : Nat} (h1 : v.ownBlock = some g) (h2 : vw.ownBlock = some g) : False := by
  obtain ⟨c1, e1, _⟩ := row_block h.pile.1.2.2.1 h1
  obtain ⟨c2, e2, _⟩ := row_block h.row h2
  rw [e1] at e2
  injection e2 with e2
  injection e2 with _ e2 _
  cases e2
theorem FrI.apart2 (h : FrI fb base v vw vp l ws n D w) {k1 : Nat} (h1 : k1 = fb ∨ v.ownBlock = some k1 ∨ vw.ownBlock = some k1) (h2 : vp = .map (some k1)) : False := by
  have hc : ∃ cur e fz, w.heap[k1]? = some (.cells cur e fz) := by
    rcases h1 with rfl | h1 | h1
    · exact cell_is_cells h.c1
    · obtain ⟨c1, e1, _⟩ := row_block h.pile.1.2.2.1 h1
      exact ⟨_, _, _, e1⟩
    · obtain ⟨c1, e1, _⟩ := row_block h.row h1
      exact ⟨_, _, _, e1⟩
  obtain ⟨cur, e, fz, hc⟩ := hc
  rcases h.pins with ⟨e9, _⟩ | ⟨b, e9, _, ho⟩
  · rw [e9] at h2; cases h2
  · rw [e9] at h2; injection h2 with h2; injection h2 with h2
    subst h2
    obtain ⟨es, cl, hm⟩ := map_block ho
    rw [hc] at hm
    cases hm
theorem PinsI.keep {S : Nat → Prop} (h : PinsI base vp n D w) (hF : Fr S w w') (hS : ∀ k, vp = .map (some k) → ¬ S k) : PinsI base vp n D w' := by
  rcases h with h | ⟨b, e, hb, ho⟩
  · exact .inl h
  · exact .inr ⟨b, e, hb, own_fr ho hF (hS b e)⟩
theorem FrI.keep {S : Nat → Prop} (h : FrI fb base v vw vp l ws n D w) (hF : Fr S w w') (hS : ∀ k, freeF fb v vw vp k → ¬ S k) : FrI fb base v vw vp l ws n D w' := by
  have hlt := cell_lt h.c1
  exact ⟨h.pile.keep hF (fun k hk => hS k (hk.imp id .inl)), (hF.cell hlt (hS fb (.inl rfl))).trans h.c1, (hF.frozen hlt (hS fb (.inl rfl))).trans h.f1, hF.owns h.row (fun g hg => hS g (.inr (.inr (.inl hg)))), h.n1,
    (hF.cell (p := ⟨fb, 2, none⟩) hlt (hS fb (.inl rfl))).trans h.c2, (hF.frozen (p := ⟨fb, 2, none⟩) hlt (hS fb (.inl rfl))).trans h.f2, h.pins.keep hF (fun k hk => hS k (.inr (.inr (.inr hk)))), h.few, h.fbb⟩
/-- The pile is another one. -/
theorem FrI.piled {v' : Value} {l' : List Int} (h : FrI fb base v vw vp l ws n D w) (hI : PileI fb base v' l' w') (hF : Fr (pileF fb v) w w') (hO : Others fb 0 w w') : FrI fb base v' vw vp l' ws n D w' := by
  have hlt := cell_lt h.c1
  refine ⟨hI, ((hO 1 (by omega)).1).trans h.c1, ((hO 1 (by omega)).2).trans h.f1, hF.owns h.row (fun g hg => ?_), h.n1, ((hO 2 (by omega)).1).trans h.c2, ((hO 2 (by omega)).2).trans h.f2, h.pins.keep hF (fun k hk => ?_), h.few, h.fbb⟩
  · rintro (e | e)
    · exact h.n1 (by rw [hg, e])
    · exact h.apart1 e hg
  · rintro (e | e)
    · exact h.apart2 (.inl e) hk
    · exact h.apart2 (.inr (.inl e)) hk
end

/-- A Free as a whole (F: its blocks). -/
def Fe (fb base : Nat) (l : List Int) (ws : List (Int × Int)) (n : Nat) (D : DU) (F : Nat → Prop) (w : World) : Prop :=
  ∃ v vw vp, FrI fb base v vw vp l ws n D w ∧ F = freeF fb v vw vp



section
variable {fb base : Nat} {l : List Int} {ws : List (Int × Int)} {n : Nat} {D : DU} {F : Nat → Prop} {w w' : World}
theorem Fe.keep {S : Nat → Prop} (h : Fe fb base l ws n D F w) (hF : Fr S w w') (hS : ∀ k, F k → ¬ S k) : Fe fb base l ws n D F w' := by
  obtain ⟨v, vw, vp, h, rfl⟩ := h
  exact ⟨v, vw, vp, h.keep hF hS, rfl⟩
theorem Fe.below (h : Fe fb base l ws n D F w) (hb : Below w.heap.size w w') : Fe fb base l ws n D F w' := h.keep (Fr.of_all (S := fun _ => False) hb) (fun _ _ h => h)
theorem Fe.lt (h : Fe fb base l ws n D F w) : ∀ k, F k → k < w.heap.size := by
  obtain ⟨v, vw, vp, h, rfl⟩ := h
  exact h.lt
theorem Fe.ge (h : Fe fb base l ws n D F w) : ∀ k, F k → base ≤ k := by
  obtain ⟨v, vw, vp, h, rfl⟩ := h
  exact h.ge
theorem Fe.few (h : Fe fb base l ws n D F w) : l.length ≤ 1000000 ∧ ws.length ≤ 1000000 := by
  obtain ⟨v, vw, vp, h, rfl⟩ := h
  exact ⟨h.pile.1.2.2.2.2.1, h.few⟩

set_option maxRecDepth 100000 in
theorem fe_len (h : Fe fb base l ws n D F w) : Calls Tryz.prog 27 #[.pointer (some ⟨fb, 0, none⟩)] w fun e w' => e = .returned (.int .i64 l.length) ∧ w' = w := by
  obtain ⟨v, vw, vp, h, rfl⟩ := h
  have HLX := Lib.hid (pile_len fb base v l w h.pile)
  clear h
  go_enter Tryz.func27, Tryz.ntmps27
  go_wp2_with fail
  refine HLX.out.mono ?_
  rintro e w1 ⟨rfl, rfl⟩
  go_wp2
  go_ret
  exact ⟨rfl, rfl⟩

set_option maxRecDepth 100000 in
theorem fe_waiting (h : Fe fb base l ws n D F w) : Calls Tryz.prog 28 #[.pointer (some ⟨fb, 0, none⟩)] w fun e w' => e = .returned (.int .i64 ws.length) ∧ w' = w := by
  obtain ⟨v, vw, vp, h, rfl⟩ := h
  obtain ⟨p, c, rfl⟩ := owns_slice h.row
  have hc := h.c1
  clear h
  go_enter Tryz.func28, Tryz.ntmps28
  go_wp2
  go_ret
  exact ⟨rfl, rfl⟩

set_option maxRecDepth 100000 in
theorem fe_take_none (h : Fe fb base [] ws n D F w) : Calls Tryz.prog 10 #[.pointer (some ⟨fb, 0, none⟩)] w fun e w' => e = .returned (.tuple #[.int .i64 0, .bool false]) ∧ w' = w := by
  obtain ⟨v, vw, vp, h, rfl⟩ := h
  have HLX := Lib.hid (pile_take_none fb base v w h.pile)
  clear h
  go_enter Tryz.func10, Tryz.ntmps10
  go_wp2_with fail
  refine HLX.out.mono ?_
  rintro e w1 ⟨rfl, rfl⟩
  go_wp2
  go_ret2
  exact ⟨rfl, rfl⟩

set_option maxRecDepth 100000 in
theorem fe_take (h : Fe fb base l ws n D F w) (hn : 0 < l.length) : Calls Tryz.prog 10 #[.pointer (some ⟨fb, 0, none⟩)] w fun e w' => e = .returned (.tuple #[.int .i64 (HL.el l 0), .bool true]) ∧ ∃ l' F', Fe fb base l' ws n D F' w' ∧ (HL.el l 0 :: l').Perm l ∧ (∀ x ∈ l, HL.el l 0 ≤ x) ∧ Step F F' w w' := by
  obtain ⟨v, vw, vp, h, rfl⟩ := h
  have HLX := Lib.hid (pile_take_o fb base v l w h.pile hn)
  have HH := Lib.hid h
  clear h
  go_enter Tryz.func10, Tryz.ntmps10
  go_wp2_with fail
  refine HLX.out.mono ?_
  rintro e w1 ⟨rfl, v', l', hI, hp, hF, hv, hO⟩
  have HFE : Hid (∃ l' F', Fe fb base l' ws n D F' w1 ∧ (HL.el l 0 :: l').Perm l ∧ (∀ x ∈ l, HL.el l 0 ≤ x) ∧ Step (freeF fb v vw vp) F' w w1) := Lib.hid ⟨l', _, ⟨v', vw, vp, HH.out.piled hI hF hO, rfl⟩, hp, fun x hx => (by have e := HL.IsHeap.least_mem nlt_ord HH.out.pile.2 x hx; unfold nlt at e; simpa using e), hF.mono (fun i _ hi => hi.imp id .inl), fun k hk => .inl (hk.imp id (Or.imp (fun e => hv ▸ e) id))⟩
  clear hI hp hF hv hO
  go_wp2
  go_ret2
  exact ⟨rfl, HFE.out⟩
end
end Go.Proofs.YtedcpckocedcoaaGreat
