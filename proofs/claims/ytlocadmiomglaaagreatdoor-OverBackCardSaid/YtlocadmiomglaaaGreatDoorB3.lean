/- Merged texts: Free FreeG FreeP FreeL. -/
import Derived.Test.YtlocadmiomglaaaGreatDoorB2
import Derived.Maps.OwnSet
import Derived.Maps.Keyed
import Derived.Deep.AppendLies
import Derived.OpenShut
/- free's Free as a whole. -/
namespace Go.Proofs.YtlocadmiomglaaaGreatDoor
open Go.RowKit

/-- What waits: the transaction's number, the page. -/
def wtcells (x : Int × Int) : List Value := [.int .i64 x.1, .int .i64 x.2]
theorem wtcells_length (x : Int × Int) : (wtcells x).length = 2 := rfl

abbrev DU := DataW Unit
/-- The map of pins. -/
def PinsI (base : Nat) (vp : Value) (n : Nat) (D : DU) (w : World) : Prop :=
  (vp = .map none ∧ D = .map []) ∨ ∃ b, vp = .map (some b) ∧ base ≤ b ∧ w.ownsMap Tryz.prog 3 (plainElem Tryz.prog 3) b n D

/-- Block fb is a Free: the pile's numbers l, what waits, the pins. -/
structure FrI (fb base : Nat) (v vw vp : Value) (l : List Int) (ws : List (Int × Int)) (n : Nat) (D : DU) (w : World) : Prop where
  pile : PileI fb base v l w
  c1 : w.cell? ⟨fb, 1, none⟩ = some vw
  f1 : w.frozen? ⟨fb, 1, none⟩ = false
  row : w.ownsRow base 178 2 vw ws.length (rowOf wtcells ws)
  n1 : vw.ownBlock ≠ some fb
  c2 : w.cell? ⟨fb, 2, none⟩ = some vp
  f2 : w.frozen? ⟨fb, 2, none⟩ = false
  pins : PinsI base vp n D w
  few : ws.length ≤ 1000000
  fbb : base ≤ fb

def freeF (fb : Nat) (v vw vp : Value) (k : Nat) : Prop := k = fb ∨ v.ownBlock = some k ∨ vw.ownBlock = some k ∨ vp = .map (some k)

theorem row_block {w : World} {base : Nat} {e : TypeId} {size n g : Nat} {v : Value} {xs : List Value} (h : w.ownsRow base e size v n xs) (hg : v.ownBlock = some g) : ∃ cur, w.heap[g]? = some (.cells cur e (0, 0)) ∧ base ≤ g := by
  rcases h.2 with ⟨rfl, _⟩ | ⟨g', cap, cur, rfl, hb, hh, _⟩
  · cases hg
  · injection hg with hg
    have : g' = g := hg
    subst this
    exact ⟨cur, hh, hb⟩
theorem map_block {w : World} {k : TypeId} {R : Value → Option (DU × List MemPlace)} {b n : Nat} {D : DU} (h : w.ownsMap Tryz.prog k R b n D) : ∃ es clock, w.heap[b]? = some (.map es clock) := by
  obtain ⟨es, clock, hb, _⟩ := h
  exact ⟨es, clock, hb⟩
theorem own_fr {w w' : World} {k : TypeId} {R : Value → Option (DU × List MemPlace)} {b n : Nat} {D : DU} {S : Nat → Prop} (h : w.ownsMap Tryz.prog k R b n D) (hF : Fr S w w') (hS : ¬ S b) : w'.ownsMap Tryz.prog k R b n D := by
  have hlt := h.lt
  obtain ⟨es, clock, hb, hr⟩ := h
  exact ⟨es, clock, (hF.block b hlt hS).trans hb, hr⟩
theorem cell_is_cells {w : World} {b o : Nat} {v : Value} (h : w.cell? ⟨b, o, none⟩ = some v) : ∃ cur e fz, w.heap[b]? = some (.cells cur e fz) := by
  unfold World.cell? at h
  cases hb : w.heap[b]? with
  | none => simp [hb] at h
  | some ob =>
    cases ob with
    | cells cur e fz => exact ⟨cur, e, fz, rfl⟩
    | _ => simp [hb] at h

section
variable {fb base : Nat} {v vw vp : Value} {l : List Int} {ws : List (Int × Int)} {n : Nat} {D : DU} {w w' : World}
theorem FrI.lt (h : FrI fb base v vw vp l ws n D w) : ∀ k, freeF fb v vw vp k → k < w.heap.size := fun k hk => by
  rcases hk with rfl | hk | hk | hk
  · exact cell_lt h.c1
  · obtain ⟨cur, hb, _⟩ := row_block h.pile.1.2.2.1 hk
    exact (Array.getElem?_eq_some_iff.1 hb).1
  · obtain ⟨cur, hb, _⟩ := row_block h.row hk
    exact (Array.getElem?_eq_some_iff.1 hb).1
  · rcases h.pins with ⟨e, _⟩ | ⟨b, e, _, ho⟩
    · rw [e] at hk; cases hk
    · rw [e] at hk; injection hk with hk; injection hk with hk; subst hk; exact ho.lt
theorem FrI.ge (h : FrI fb base v vw vp l ws n D w) : ∀ k, freeF fb v vw vp k → base ≤ k := fun k hk => by
  rcases hk with rfl | hk | hk | hk
  · exact h.fbb
  · obtain ⟨_, _, hb⟩ := row_block h.pile.1.2.2.1 hk
    exact hb
  · obtain ⟨_, _, hb⟩ := row_block h.row hk
    exact hb
  · rcases h.pins with ⟨e, _⟩ | ⟨b, e, hb, ho⟩
    · rw [e] at hk; cases hk
    · rw [e] at hk; injection hk with hk; injection hk with hk; subst hk; exact hb
/-- The pile's numbers lie apart from what waits. -/
theorem FrI.apart1 (h : FrI fb base v vw vp l ws n D w) {g : Nat} (h1 : v.ownBlock = some g) (h2 : vw.ownBlock = some g) : False := by
  obtain ⟨c1, e1, _⟩ := row_block h.pile.1.2.2.1 h1
  obtain ⟨c2, e2, _⟩ := row_block h.row h2
  rw [e1] at e2
  injection e2 with e2
  injection e2 with _ e2 _
  cases e2
theorem FrI.apart2 (h : FrI fb base v vw vp l ws n D w) {k1 : Nat} (h1 : k1 = fb ∨ v.ownBlock = some k1 ∨ vw.ownBlock = some k1) (h2 : vp = .map (some k1)) : False := by
  have hc : ∃ cur e fz, w.heap[k1]? = some (.cells cur e fz) := by
    rcases h1 with rfl | h1 | h1
    · exact cell_is_cells h.c1
    · obtain ⟨c1, e1, _⟩ := row_block h.pile.1.2.2.1 h1
      exact ⟨_, _, _, e1⟩
    · obtain ⟨c1, e1, _⟩ := row_block h.row h1
      exact ⟨_, _, _, e1⟩
  obtain ⟨cur, e, fz, hc⟩ := hc
  rcases h.pins with ⟨e9, _⟩ | ⟨b, e9, _, ho⟩
  · rw [e9] at h2; cases h2
  · rw [e9] at h2; injection h2 with h2; injection h2 with h2
    subst h2
    obtain ⟨es, cl, hm⟩ := map_block ho
    rw [hc] at hm
    cases hm
theorem PinsI.keep {S : Nat → Prop} (h : PinsI base vp n D w) (hF : Fr S w w') (hS : ∀ k, vp = .map (some k) → ¬ S k) : PinsI base vp n D w' := by
  rcases h with h | ⟨b, e, hb, ho⟩
  · exact .inl h
  · exact .inr ⟨b, e, hb, own_fr ho hF (hS b e)⟩
theorem FrI.keep {S : Nat → Prop} (h : FrI fb base v vw vp l ws n D w) (hF : Fr S w w') (hS : ∀ k, freeF fb v vw vp k → ¬ S k) : FrI fb base v vw vp l ws n D w' := by
  have hlt := cell_lt h.c1
  exact ⟨h.pile.keep hF (fun k hk => hS k (hk.imp id .inl)), (hF.cell hlt (hS fb (.inl rfl))).trans h.c1, (hF.frozen hlt (hS fb (.inl rfl))).trans h.f1, hF.owns h.row (fun g hg => hS g (.inr (.inr (.inl hg)))), h.n1,
    (hF.cell (p := ⟨fb, 2, none⟩) hlt (hS fb (.inl rfl))).trans h.c2, (hF.frozen (p := ⟨fb, 2, none⟩) hlt (hS fb (.inl rfl))).trans h.f2, h.pins.keep hF (fun k hk => hS k (.inr (.inr (.inr hk)))), h.few, h.fbb⟩
/-- The pile is another one. -/
theorem FrI.piled {v' : Value} {l' : List Int} (h : FrI fb base v vw vp l ws n D w) (hI : PileI fb base v' l' w') (hF : Fr (pileF fb v) w w') (hO : Others fb 0 w w') : FrI fb base v' vw vp l' ws n D w' := by
  have hlt := cell_lt h.c1
  refine ⟨hI, ((hO 1 (by omega)).1).trans h.c1, ((hO 1 (by omega)).2).trans h.f1, hF.owns h.row (fun g hg => ?_), h.n1, ((hO 2 (by omega)).1).trans h.c2, ((hO 2 (by omega)).2).trans h.f2, h.pins.keep hF (fun k hk => ?_), h.few, h.fbb⟩
  · rintro (e | e)
    · exact h.n1 (by rw [hg, e])
    · exact h.apart1 e hg
  · rintro (e | e)
    · exact h.apart2 (.inl e) hk
    · exact h.apart2 (.inr (.inl e)) hk
end

/-- A Free as a whole (F: its blocks). -/
def Fe (fb base : Nat) (l : List Int) (ws : List (Int × Int)) (n : Nat) (D : DU) (F : Nat → Prop) (w : World) : Prop :=
  ∃ v vw vp, FrI fb base v vw vp l ws n D w ∧ F = freeF fb v vw vp



section
variable {fb base : Nat} {l : List Int} {ws : List (Int × Int)} {n : Nat} {D : DU} {F : Nat → Prop} {w w' : World}
theorem Fe.keep {S : Nat → Prop} (h : Fe fb base l ws n D F w) (hF : Fr S w w') (hS : ∀ k, F k → ¬ S k) : Fe fb base l ws n D F w' := by
  obtain ⟨v, vw, vp, h, rfl⟩ := h
  exact ⟨v, vw, vp, h.keep hF hS, rfl⟩
theorem Fe.below (h : Fe fb base l ws n D F w) (hb : Below w.heap.size w w') : Fe fb base l ws n D F w' := h.keep (Fr.of_all (S := fun _ => False) hb) (fun _ _ h => h)
theorem Fe.lt (h : Fe fb base l ws n D F w) : ∀ k, F k → k < w.heap.size := by
  obtain ⟨v, vw, vp, h, rfl⟩ := h
  exact h.lt
theorem Fe.ge (h : Fe fb base l ws n D F w) : ∀ k, F k → base ≤ k := by
  obtain ⟨v, vw, vp, h, rfl⟩ := h
  exact h.ge
theorem Fe.few (h : Fe fb base l ws n D F w) : l.length ≤ 1000000 ∧ ws.length ≤ 1000000 := by
  obtain ⟨v, vw, vp, h, rfl⟩ := h
  exact ⟨h.pile.1.2.2.2.2.1, h.few⟩

set_option maxRecDepth 100000 in
theorem fe_len (h : Fe fb base l ws n D F w) : Calls Tryz.prog 259 #[.pointer (some ⟨fb, 0, none⟩)] w fun e w' => e = .returned (.int .i64 l.length) ∧ w' = w := by
  obtain ⟨v, vw, vp, h, rfl⟩ := h
  have HLX := Lib.hid (pile_len fb base v l w h.pile)
  clear h
  go_enter Tryz.func259, Tryz.ntmps259
  go_wp2_with fail
  refine HLX.out.mono ?_
  rintro e w1 ⟨rfl, rfl⟩
  go_wp2
  go_ret
  exact ⟨rfl, rfl⟩


set_option maxRecDepth 100000 in
theorem fe_take_none (h : Fe fb base [] ws n D F w) : Calls Tryz.prog 137 #[.pointer (some ⟨fb, 0, none⟩)] w fun e w' => e = .returned (.tuple #[.int .i64 0, .bool false]) ∧ w' = w := by
  obtain ⟨v, vw, vp, h, rfl⟩ := h
  have HLX := Lib.hid (pile_take_none fb base v w h.pile)
  clear h
  go_enter Tryz.func137, Tryz.ntmps137
  go_wp2_with fail
  refine HLX.out.mono ?_
  rintro e w1 ⟨rfl, rfl⟩
  go_wp2
  go_ret2
  exact ⟨rfl, rfl⟩

set_option maxRecDepth 100000 in
theorem fe_take (h : Fe fb base l ws n D F w) (hn : 0 < l.length) : Calls Tryz.prog 137 #[.pointer (some ⟨fb, 0, none⟩)] w fun e w' => e = .returned (.tuple #[.int .i64 (HL.el l 0), .bool true]) ∧ ∃ l' F', Fe fb base l' ws n D F' w' ∧ (HL.el l 0 :: l').Perm l ∧ (∀ x ∈ l, HL.el l 0 ≤ x) ∧ Step F F' w w' := by
  obtain ⟨v, vw, vp, h, rfl⟩ := h
  have HLX := Lib.hid (pile_take_o fb base v l w h.pile hn)
  have HH := Lib.hid h
  clear h
  go_enter Tryz.func137, Tryz.ntmps137
  go_wp2_with fail
  refine HLX.out.mono ?_
  rintro e w1 ⟨rfl, v', l', hI, hp, hF, hv, hO⟩
  have HFE : Hid (∃ l' F', Fe fb base l' ws n D F' w1 ∧ (HL.el l 0 :: l').Perm l ∧ (∀ x ∈ l, HL.el l 0 ≤ x) ∧ Step (freeF fb v vw vp) F' w w1) := Lib.hid ⟨l', _, ⟨v', vw, vp, HH.out.piled hI hF hO, rfl⟩, hp, fun x hx => (by have e := HL.IsHeap.least_mem nlt_ord HH.out.pile.2 x hx; unfold nlt at e; simpa using e), hF.mono (fun i _ hi => hi.imp id .inl), fun k hk => .inl (hk.imp id (Or.imp (fun e => hv ▸ e) id))⟩
  clear hI hp hF hv hO
  go_wp2
  go_ret2
  exact ⟨rfl, HFE.out⟩
end
end Go.Proofs.YtlocadmiomglaaaGreatDoor

/- free's Free: New, Back, Give. -/
namespace Go.Proofs.YtlocadmiomglaaaGreatDoor
open Go.RowKit

section
variable {fb base : Nat} {v vw vp : Value} {l : List Int} {ws : List (Int × Int)} {np : Nat} {D : DU} {F : Nat → Prop} {w w' : World}

theorem FrI.waited (h : FrI fb base v vw vp l ws np D w) {X : Obj} {w1 : World} {g cap : Nat} {x : Int × Int} (hown : w1.ownsRow base 178 2 (.slice (some ⟨g, 0, none⟩) (ws.length + 1) cap) (ws.length + 1) (rowOf wtcells ws ++ wtcells x)) (hgr : (w.alloc X).grownBy w1 vw.ownBlock) (hat : vw.ownBlock = some g ∨ g = w.heap.size + 1) (hn : ws.length < 1000000) :
    FrI fb base v (.slice (some ⟨g, 0, none⟩) (ws.length + 1) cap) vp l (ws ++ [x]) np D (w1.setCell ⟨fb, 1, none⟩ (.slice (some ⟨g, 0, none⟩) (ws.length + 1) cap)) ∧ Step (freeF fb v vw vp) (freeF fb v (.slice (some ⟨g, 0, none⟩) (ws.length + 1) cap) vp) w (w1.setCell ⟨fb, 1, none⟩ (.slice (some ⟨g, 0, none⟩) (ws.length + 1) cap)) := by
  have hlt : fb < w.heap.size := cell_lt h.c1
  have hblk : w1.heap[fb]? = w.heap[fb]? := (hgr.block fb (by simp; omega) (fun e => h.n1 e.symm)).trans (Below.heap_alloc w X fb hlt)
  have hfr : Fr (fun k => k = fb ∨ vw.ownBlock = some k) w w1 := Fr.trans ((Fr.refl (fun k => k = fb ∨ vw.ownBlock = some k) w).alloc X) (Fr.of_grown (S := fun k => vw.ownBlock = some k) hgr (fun i _ e => e)) (fun i hi _ => .inr hi)
  obtain ⟨k1, k2, k3, k4, k5, k6, k7⟩ := push_end hlt h.n1 ⟨hblk, hfr⟩ hown hat (by omega) ((World.cell?_of_block (a := ⟨fb, 1, none⟩) hblk).trans h.c1) ((World.frozen?_of_block (a := ⟨fb, 1, none⟩) hblk).trans h.f1)
  have hlen : (ws ++ [x]).length = ws.length + 1 := by simp
  refine ⟨⟨⟨⟨(k7 0 (by omega)).1.trans h.pile.1.1, (k7 0 (by omega)).2.trans h.pile.1.2.1, k4.owns h.pile.1.2.2.1 (fun g' hg' => ?_), h.pile.1.2.2.2.1, h.pile.1.2.2.2.2.1, Nat.le_trans h.pile.1.2.2.2.2.2 k4.size⟩, h.pile.2⟩, k1, k2, ?_, fun e => k6 (by simpa [Value.ownBlock] using e), (k7 2 (by omega)).1.trans h.c2, (k7 2 (by omega)).2.trans h.f2, h.pins.keep k4 (fun k hk => ?_), by omega, h.fbb⟩, k4.mono (fun i _ hi => hi.imp id (fun e => .inr (.inl e))), fun k hk => ?_⟩
  · rintro (e | e)
    · exact h.pile.1.2.2.2.1 (by rw [hg', e])
    · exact h.apart1 hg' e
  · rw [hlen, rowOf_append, rowOf_one]
    exact k3
  · rintro (e | e)
    · exact h.apart2 (.inl e) hk
    · exact h.apart2 (.inr (.inr e)) hk
  · rcases hk with hk | hk | hk | hk
    · exact .inl (.inl hk)
    · exact .inl (.inr (.inl hk))
    · have : g = k := by simpa [Value.ownBlock] using hk
      subst this
      exact k5.imp (fun e => .inr (.inr (.inl e))) id
    · exact .inl (.inr (.inr (.inr hk)))

set_option maxRecDepth 100000 in
theorem fe_back (p : Option Addr) (n c : Nat) (zs : List Int) (h : Fe fb base l ws np D F w) (hz : RdI w w.heap.size p n zs) (hS : ∀ b o, p = some ⟨b, o, none⟩ → 0 < n → ¬ F b) (hn : l.length + n < 1000000) :
    Calls Tryz.prog 121 #[.pointer (some ⟨fb, 0, none⟩), .slice p n c] w fun e w' => e = .returned (.tuple #[]) ∧ ∃ l' F', Fe fb base l' ws np D F' w' ∧ l'.Perm (l ++ zs) ∧ Step F F' w w' := by
  obtain ⟨v, vw, vp, h, rfl⟩ := h
  have HLX := Lib.hid (pile_put_o fb base v l zs p n c w h.pile hz (fun b o e h0 hb => hS b o e h0 (hb.imp id .inl)) hn)
  have HH := Lib.hid h
  clear h hz hS hn
  go_enter Tryz.func121, Tryz.ntmps121
  go_wp2_with fail
  refine HLX.out.mono ?_
  rintro e w1 ⟨rfl, v', l', hI, hp, hF, hv, hO⟩
  have HFE : Hid (∃ l' F', Fe fb base l' ws np D F' w1 ∧ l'.Perm (l ++ zs) ∧ Step (freeF fb v vw vp) F' w w1) := Lib.hid ⟨l', _, ⟨v', vw, vp, HH.out.piled hI hF hO, rfl⟩, hp, hF.mono (fun i _ hi => hi.imp id .inl), fun k hk => by
    rcases hk with hk | hk | hk | hk
    · exact .inl (.inl hk)
    · exact (hv k hk).imp (fun e => .inr (.inl e)) id
    · exact .inl (.inr (.inr (.inl hk)))
    · exact .inl (.inr (.inr (.inr hk)))⟩
  clear hI hp hF hv hO
  go_wp2
  go_end0
  exact ⟨rfl, HFE.out⟩

theorem fe_fresh (w : World) : Fe w.heap.size w.heap.size [] [] 0 (.map []) (fun k => k = w.heap.size) (w.alloc (.cells #[.slice none 0 0, .slice none 0 0, .map none] 173)) := by
  have hb := heap_alloc_new w (.cells #[.slice none 0 0, .slice none 0 0, .map none] 173)
  have cc : ∀ k u, (#[Value.slice none 0 0, .slice none 0 0, .map none])[k]? = some u → (w.alloc (.cells #[.slice none 0 0, .slice none 0 0, .map none] 173)).cell? ⟨w.heap.size, k, none⟩ = some u := fun k u hu => by
    rw [cell_of_row _ _ _ _ _ _ hb]; exact hu
  have ff : ∀ k, (w.alloc (.cells #[.slice none 0 0, .slice none 0 0, .map none] 173)).frozen? ⟨w.heap.size, k, none⟩ = false := fun k => by
    unfold World.frozen?
    rw [hb]
    simp
  refine ⟨.slice none 0 0, .slice none 0 0, .map none, ⟨⟨⟨cc 0 _ rfl, ff 0, World.ownsRow_nil _ _ _ _, (by intro e; cases e), by simp, by simp⟩, HL.isHeap_nil⟩, cc 1 _ rfl, ff 1, World.ownsRow_nil _ _ _ _, (by intro e; cases e), cc 2 _ rfl, ff 2, .inl ⟨rfl, rfl⟩, by simp, Nat.le_refl _⟩, ?_⟩
  funext k
  unfold freeF
  simp [Value.ownBlock]

set_option maxRecDepth 100000 in
theorem fe_new (p : Option Addr) (n c : Nat) (zs : List Int) (w : World) (hz : RdI w w.heap.size p n zs) (hn : n < 1000000) :
    Calls Tryz.prog 41 #[.slice p n c] w fun e w' => e = .returned (.pointer (some ⟨w.heap.size, 0, none⟩)) ∧ ∃ l F, Fe w.heap.size w.heap.size l [] 0 (.map []) F w' ∧ l.Perm zs ∧ Below w.heap.size w w' := by
  have hb : Below w.heap.size w (w.alloc (.cells #[.slice none 0 0, .slice none 0 0, .map none] 173)) := (Below.refl _ w).alloc (Nat.le_refl _) _
  have HB := Lib.hid hb
  have HBK := Lib.hid (fe_back p n c zs (fe_fresh w) ((hz.below hb).more (by simp)) (fun b o e h0 hF => by
    obtain ⟨b', o', e', hlt, _⟩ := hz.2 h0
    rw [e] at e'
    injection e' with e'
    injection e' with e' _ _
    have : b = w.heap.size := hF
    omega) (by simpa using hn))
  clear hb hz hn
  go_enter Tryz.func41, Tryz.ntmps41
  go_wp2_with fail
  refine HBK.out.mono ?_
  rintro e w1 ⟨rfl, l', F', hI, hp, hS⟩
  have HX : Hid (∃ l F, Fe w.heap.size w.heap.size l [] 0 (.map []) F w1 ∧ l.Perm zs ∧ Below w.heap.size w w1) := Lib.hid ⟨l', F', hI, by simpa using hp, HB.out.trans (hS.1.below (by simp) (fun i hi => by have : i = w.heap.size := hi; omega))⟩
  clear hI hp hS
  go_wp2
  go_ret
  exact ⟨rfl, HX.out⟩

theorem info_wait : (Tryz.prog.info? 178).map (fun i => (i.zero, i.size, i.bytes)) = some (some (.agg #[.int .i64 0, .int .i64 0]), 2, 16) := by kernel_rfl

end
end Go.Proofs.YtlocadmiomglaaaGreatDoor

/- free's Free: Pin, Unpin. -/
namespace Go.Proofs.YtlocadmiomglaaaGreatDoor
open Go.RowKit
attribute [local go_sem] Oper.semAt_some

theorem keyI : Go.Maps.Keyed Tryz.prog 3 := Go.Maps.int_keyed Tryz.underlying3
theorem key_at {t : Int} (ht : (Lit.int .i64 t).wf = true) : keyOf Tryz.prog 3 (.int .i64 t) = some (.int .i64 t) := by
  simp [keyOf, Tryz.underlying3, mapKey, ht]
theorem map_nil_nil (w : World) : (binOp .eql 171 (.map none) (.map none)).run Tryz.prog w = .ok (.bool true) w := by kernel_rfl
theorem map_some_nil (b : Nat) (w : World) : (binOp .eql 171 (.map (some b)) (.map none)).run Tryz.prog w = .ok (.bool false) w := by kernel_rfl
theorem fr_turned {w w' : World} {b : Nat} (h : w.mapTurned w' b) : Fr (fun k => k = b) w w' := Fr.of_grown h.grown (fun i _ e => by cases e; rfl)
def litI (c : Int) : DU := .lit (.int .i64 c)

section
variable {fb base : Nat} {v vw vp : Value} {l : List Int} {ws : List (Int × Int)} {np : Nat} {D : DU} {F : Nat → Prop} {w w' : World}

/-- The map is another one. -/
theorem FrI.pinned {b n' : Nat} {D' : DU} (h : FrI fb base v vw (.map (some b)) l ws np D w) (ho : w'.ownsMap Tryz.prog 3 (plainElem Tryz.prog 3) b n' D') (hF : Fr (fun k => k = b) w w') : FrI fb base v vw (.map (some b)) l ws n' D' w' := by
  have hb : ∀ k, (k = fb ∨ v.ownBlock = some k ∨ vw.ownBlock = some k) → ¬ k = b := fun k hk e => h.apart2 hk (by rw [e])
  have hlt := cell_lt h.c1
  have hbb : base ≤ b := h.ge b (.inr (.inr (.inr rfl)))
  exact ⟨h.pile.keep hF (fun k hk => hb k (hk.imp id .inl)), (hF.cell (p := ⟨fb, 1, none⟩) hlt (hb fb (.inl rfl))).trans h.c1, (hF.frozen (p := ⟨fb, 1, none⟩) hlt (hb fb (.inl rfl))).trans h.f1, hF.owns h.row (fun g hg => hb g (.inr (.inr hg))), h.n1,
    (hF.cell (p := ⟨fb, 2, none⟩) hlt (hb fb (.inl rfl))).trans h.c2, (hF.frozen (p := ⟨fb, 2, none⟩) hlt (hb fb (.inl rfl))).trans h.f2, .inr ⟨b, rfl, hbb, ho⟩, h.few, h.fbb⟩



theorem PinsI.few (h : PinsI base vp np D w) : vp = .map none ∨ ∃ b, vp = .map (some b) := by
  rcases h with ⟨e, _⟩ | ⟨b, e, _⟩
  · exact .inl e
  · exact .inr ⟨b, e⟩


theorem keyL (t : Int) : WideAt.IsKeyLit (.int .i64 t) := trivial
set_option maxRecDepth 100000 in
theorem atKey_litI {c : Int} {b n : Nat} (ho : w.ownsMap Tryz.prog 3 (plainElem (H := Unit) Tryz.prog 3) b n D) {t : Int} (ht : (Lit.int .i64 t).wf = true) (hat : D.atKey (.int .i64 t) (litI 0) = litI c) :
    (Instr.lookup 171 (.map (some b)) (.int .i64 t) false).run Tryz.prog w = .ok (.int .i64 c) w ∧ (Lit.int .i64 c).wf = true := by
  obtain ⟨c', hlk, hat', hwc⟩ := ho.lookup_int keyI Tryz.underlying171 Tryz.underlying3 rfl (key_at ht)
  have e : litI c = litI c' := hat.symm.trans hat'
  injection e with e
  injection e with _ e
  subst e
  exact ⟨hlk, hwc⟩

set_option maxRecDepth 100000 in
/-- No such pin. -/
theorem pins_none (hp : PinsI base vp np D w) (t : Int) (ht : (Lit.int .i64 t).wf = true) (hat : D.atKey (.int .i64 t) (litI 0) = litI 0) : (Instr.lookup 171 vp (.int .i64 t) false).run Tryz.prog w = .ok (.int .i64 0) w := by
  rcases hp with ⟨rfl, rfl⟩ | ⟨b, rfl, _, ho⟩
  · exact Go.Maps.look_nil false keyI Tryz.underlying171 (show (zeroValue 3).run Tryz.prog w = .ok (.int .i64 0) w from rfl) (key_at ht)
  · exact (atKey_litI ho ht hat).1




end
end Go.Proofs.YtlocadmiomglaaaGreatDoor

/- free's Free: List, All. -/
namespace Go.Proofs.YtlocadmiomglaaaGreatDoor
open Go.RowKit

section
variable {fb base : Nat} {v vw vp : Value} {l : List Int} {ws : List (Int × Int)} {np : Nat} {D : DU} {F : Nat → Prop} {w w' : World}

set_option maxRecDepth 100000 in
theorem fe_list (h : Fe fb base l ws np D F w) :
    Calls Tryz.prog 135 #[.pointer (some ⟨fb, 0, none⟩)] w fun e w' => ∃ u, e = .returned u ∧ w'.ownsRow w.heap.size 3 1 u l.length (rowOf ncells (CL.srt l)) ∧ Below w.heap.size w w' := by
  obtain ⟨v, vw, vp, h, rfl⟩ := h
  have HLX := Lib.hid (pile_list fb base v l w h.pile)
  clear h
  go_enter Tryz.func135, Tryz.ntmps135
  go_wp2_with fail
  refine HLX.out.mono ?_
  rintro e w1 ⟨u, rfl, ho⟩
  have HO := Lib.hid ho
  clear ho
  go_wp2
  go_ret
  exact ⟨u, rfl, HO.out⟩

theorem addr0 (g k : Nat) : (⟨g, 0, none⟩ : Addr).add k = ⟨g, k, none⟩ := by unfold Addr.add; split <;> simp_all
theorem row2_cell {g n cap : Nat} (ho : w.ownsRow base 178 2 (.slice (some ⟨g, 0, none⟩) n cap) ws.length (rowOf wtcells ws)) (k : Nat) (hk : k < ws.length) :
    w.cell? ⟨g, k * 2, none⟩ = some (.int .i64 (ws.getD k default).1) ∧ w.cell? ⟨g, k * 2 + 1, none⟩ = some (.int .i64 (ws.getD k default).2) := by
  have r0 := rowOf_at wtcells wtcells_length ws k 0 hk (by omega)
  have r1 := rowOf_at wtcells wtcells_length ws k 1 hk (by omega)
  rw [Nat.add_zero] at r0
  have c0 := ho.cells (g := g) rfl (k * 2) _ r0
  have c1 := ho.cells (g := g) rfl (k * 2 + 1) _ r1
  exact ⟨by rw [← addr0]; exact c0, by rw [← addr0]; exact c1⟩

def pagesOf (ws : List (Int × Int)) : List Int := ws.map Prod.snd
theorem pages_take (ws : List (Int × Int)) (k : Nat) (hk : k < ws.length) : (pagesOf ws).take (k + 1) = (pagesOf ws).take k ++ [(ws.getD k default).2] := by
  unfold pagesOf
  rw [List.take_succ_eq_append_getElem (by simpa using hk)]
  simp [hk]

set_option maxHeartbeats 1000000 in
set_option maxRecDepth 100000 in
theorem fe_all (h : Fe fb base l ws np D F w) (hn : l.length + ws.length ≤ 1000000) :
    Calls Tryz.prog 45 #[.pointer (some ⟨fb, 0, none⟩)] w fun e w' => ∃ u, e = .returned u ∧ w'.ownsRow w.heap.size 3 1 u (l.length + ws.length) (rowOf ncells (CL.srt (l ++ pagesOf ws))) ∧ Below w.heap.size w w' := by
  obtain ⟨i0, hi0, hz0, hz1, hz2⟩ := info_parts info_int
  obtain ⟨v, vw, vp, h, rfl⟩ := h
  have HLX := Lib.hid (pile_list fb base v l w h.pile)
  obtain ⟨q, d, rfl⟩ := owns_slice h.row
  have hc1 := h.c1
  have hfl : fb < w.heap.size := cell_lt h.c1
  have HR := Lib.hid h.row
  clear h
  go_enter Tryz.func45, Tryz.ntmps45
  go_wp2_with fail
  refine HLX.out.mono ?_
  rintro e w1 ⟨u, rfl, ho, hb⟩
  have hcx := (hb.cell (p := ⟨fb, 1, none⟩) hfl).trans hc1
  have HO1 : Hid (w1.ownsRow w.heap.size 3 1 u (l.length + 0) (rowOf ncells (CL.srt l ++ (pagesOf ws).take 0))) := Lib.hid (by simpa using ho)
  have HB1 := Lib.hid hb
  clear ho hb HLX
  go_wp2
  go_loopw [3, 5, 17] (fun ov _ iv wr => ∃ k : Nat, k ≤ ws.length ∧ iv = .int .i64 k ∧ Hid (wr.ownsRow w.heap.size 3 1 ov (l.length + k) (rowOf ncells (CL.srt l ++ (pagesOf ws).take k))) ∧ Hid (Below w.heap.size w wr)) (fun _ _ iv _ => ws.length - (intOf iv).toNat)
  case atStart => exact ⟨0, Nat.zero_le _, rfl, HO1, HB1⟩
  case round =>
    clear HO1
    obtain ⟨k, hk, rfl, ho, hb⟩ := hrel
    by_cases hlt : k < ws.length
    · obtain ⟨g, cap, hv, _, hg, _⟩ := owns_len HR.out (by omega)
      injection hv with hv1 _ _
      subst hv1
      obtain ⟨x0, x1⟩ := row2_cell HR.out k hlt
      have y0 := (hb.out.cell (p := ⟨g, k * 2, none⟩) hg).trans x0
      have y1 := (hb.out.cell (p := ⟨g, k * 2 + 1, none⟩) hg).trans x1
      have HTK : Hid (rowOf ncells (CL.srt l ++ (pagesOf ws).take (k + 1)) = rowOf ncells (CL.srt l ++ (pagesOf ws).take k) ++ [.int .i64 (ws.getD k default).2]) := Lib.hid (by
        rw [pages_take ws k hlt, ← List.append_assoc, rowOf_append, rowOf_one]
        rfl)
      have hbs := hb.out.size
      clear x0 x1
      generalize (ws.getD k default).1 = tx at *
      generalize (ws.getD k default).2 = px at *
      generalize rowOf ncells (CL.srt l ++ (pagesOf ws).take k) = row at *
      go_wp2_with (at_builtin; refine wpList_append_own _ rfl _ _ 27 rfl w.heap.size 3 i0 _ 1 8 Tryz.underlying27 hi0 hz0 hz1 hz2 rfl (by omega) _ (l.length + k) row rfl ((ho.out.alloc _).alloc _) ⟨wr.heap.size + 1, 0, none⟩ 1 1 [.int .i64 px] rfl rfl ?c2 ?c3 ?c4 ?c5 ?c6 ?_; (case c2 => intro j u hu; have e9 := new_cells (wr.alloc (.cells #[.int .i64 tx, .int .i64 px] 178)) [.int .i64 px] 3 j u hu; rw [World.size_alloc] at e9; exact e9); (case c3 => simp [Value.oneCell']); (case c4 => unfold maxLen; omega); (case c5 => omega); (case c6 => simp; omega); intro v4 w4 hown4 hgr4 _; have H4 := Lib.hid hown4; have HB4 : Hid (Below w.heap.size w w4) := Lib.hid (((hb.out.alloc hb.out.size _).alloc (by simp; omega) _).grown hgr4 (by simp; omega) (fun k hk => (ho.out.lt k hk).1)); clear hown4 hgr4)
      go_roundw
      case rel => exact ⟨_, _, _, ⟨k + 1, by omega, by go_num, by rw [HTK.out]; exact H4⟩, rfl, rfl, rfl⟩
      case measure => simp [intOf]; omega
    · obtain rfl : k = ws.length := by omega
      have hpl : (pagesOf ws).take ws.length = pagesOf ws := List.take_of_length_le (by simp [pagesOf])
      have hlen : (CL.srt l ++ pagesOf ws).length = l.length + ws.length := by rw [List.length_append, CL.srt_length]; simp [pagesOf]
      have hrow : wr.ownsRow w.heap.size 3 1 u3 (CL.srt l ++ pagesOf ws).length ((CL.srt l ++ pagesOf ws).map (Value.int .i64)) := by
        rw [hlen, ← rowOf_map]
        have := ho.out
        rwa [hpl] at this
      have HS := Lib.hid (sort_own w.heap.size u3 (CL.srt l ++ pagesOf ws) wr (by omega) hrow)
      have HLT := Lib.hid (fun k hk => (hrow.lt k hk).1)
      have hsrt : CL.srt (CL.srt l ++ pagesOf ws) = CL.srt (l ++ pagesOf ws) := CL.srt_of_perm ((CL.srt_perm l).append_right _)
      rw [hsrt, hlen] at HS
      clear hrow ho hpl hlen hsrt
      go_wp2_with fail
      refine HS.out.mono ?_
      rintro e w2 ⟨rfl, ho2, hg2⟩
      have HO2 := Lib.hid ho2
      have HB2 : Hid (Below w.heap.size w w2) := Lib.hid (hb.out.grown hg2 hb.out.size HLT.out)
      clear ho2 hg2
      go_wp2
      go_ret
      exact ⟨u3, rfl, by rw [rowOf_map]; exact HO2.out, HB2.out⟩
end
end Go.Proofs.YtlocadmiomglaaaGreatDoor

