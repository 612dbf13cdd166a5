/- Merged texts: Free FreeG FreeP FreeL FreeK FreeC FreeI FreeD FreeR FAlive. -/
import Derived.Test.YtedcpckocedcoaaGreatG1
import Derived.Test.YtedcpckocedcoaaGreatStep
import Derived.Test.YtedcpckocedcoaaGreatSorted
import Derived.Maps.OwnSet
import Derived.Maps.Keyed
import Derived.Deep.AppendLies
import Derived.OpenShut
import Derived.Test.YtedcpckocedcoaaGreatLayK
import Derived.Lib.SliceRun
import Derived.Laws.OwnMore
/- free's Free as a whole. -/
namespace Go.Proofs.YtedcpckocedcoaaGreat
open Go.RowKit

/-- What waits: the transaction's number, the page. -/
def wtcells (x : Int × Int) : List Value := [.int .i64 x.1, .int .i64 x.2]
theorem wtcells_length (x : Int × Int) : (wtcells x).length = 2 := rfl

abbrev DU := DataW Unit
/-- The map of pins. -/
def PinsI (base : Nat) (vp : Value) (n : Nat) (D : DU) (w : World) : Prop :=
  (vp = .map none ∧ D = .map []) ∨ ∃ b, vp = .map (some b) ∧ base ≤ b ∧ w.ownsMap Tryz.prog 3 (plainElem Tryz.prog 3) b n D

/-- Block fb is a Free: the pile's numbers l, what waits, the pins. -/
structure FrI (fb base : Nat) (v vw vp : Value) (l : List Int) (ws : List (Int × Int)) (n : Nat) (D : DU) (w : World) : Prop where
  pile : PileI fb base v l w
  c1 : w.cell? ⟨fb, 1, none⟩ = some vw
  f1 : w.frozen? ⟨fb, 1, none⟩ = false
  row : w.ownsRow base 81 2 vw ws.length (rowOf wtcells ws)
  n1 : vw.ownBlock ≠ some fb
  c2 : w.cell? ⟨fb, 2, none⟩ = some vp
  f2 : w.frozen? ⟨fb, 2, none⟩ = false
  pins : PinsI base vp n D w
  few : ws.length ≤ 1000000
  fbb : base ≤ fb

def freeF (fb : Nat) (v vw vp : Value) (k : Nat) : Prop := k = fb ∨ v.ownBlock = some k ∨ vw.ownBlock = some k ∨ vp = .map (some k)

theorem row_block {w : World} {base : Nat} {e : TypeId} {size n g : Nat} {v : Value} {xs : List Value} (h : w.ownsRow base e size v n xs) (hg : v.ownBlock = some g) : ∃ cur, w.heap[g]? = some (.cells cur e (0, 0)) ∧ base ≤ g := by
  rcases h.2 with ⟨rfl, _⟩ | ⟨g', cap, cur, rfl, hb, hh, _⟩
  · cases hg
  · injection hg with hg
    have : g' = g := hg
    subst this
    exact ⟨cur, hh, hb⟩
theorem map_block {w : World} {k : TypeId} {R : Value → Option (DU × List MemPlace)} {b n : Nat} {D : DU} (h : w.ownsMap Tryz.prog k R b n D) : ∃ es clock, w.heap[b]? = some (.map es clock) := by
  obtain ⟨es, clock, hb, _⟩ := h
  exact ⟨es, clock, hb⟩
theorem own_fr {w w' : World} {k : TypeId} {R : Value → Option (DU × List MemPlace)} {b n : Nat} {D : DU} {S : Nat → Prop} (h : w.ownsMap Tryz.prog k R b n D) (hF : Fr S w w') (hS : ¬ S b) : w'.ownsMap Tryz.prog k R b n D := by
  have hlt := h.lt
  obtain ⟨es, clock, hb, hr⟩ := h
  exact ⟨es, clock, (hF.block b hlt hS).trans hb, hr⟩
theorem cell_is_cells {w : World} {b o : Nat} {v : Value} (h : w.cell? ⟨b, o, none⟩ = some v) : ∃ cur e fz, w.heap[b]? = some (.cells cur e fz) := by
  unfold World.cell? at h
  cases hb : w.heap[b]? with
  | none => simp [hb] at h
  | some ob =>
    cases ob with
    | cells cur e fz => exact ⟨cur, e, fz, rfl⟩
    | _ => simp [hb] at h

section
variable {fb base : Nat} {v vw vp : Value} {l : List Int} {ws : List (Int × Int)} {n : Nat} {D : DU} {w w' : World}
theorem FrI.lt (h : FrI fb base v vw vp l ws n D w) : ∀ k, freeF fb v vw vp k → k < w.heap.size := fun k hk => by
  rcases hk with rfl | hk | hk | hk
  · exact cell_lt h.c1
  · obtain ⟨cur, hb, _⟩ := row_block h.pile.1.2.2.1 hk
    exact (Array.getElem?_eq_some_iff.1 hb).1
  · obtain ⟨cur, hb, _⟩ := row_block h.row hk
    exact (Array.getElem?_eq_some_iff.1 hb).1
  · rcases h.pins with ⟨e, _⟩ | ⟨b, e, _, ho⟩
    · rw [e] at hk; cases hk
    · rw [e] at hk; injection hk with hk; injection hk with hk; subst hk; exact ho.lt
theorem FrI.ge (h : FrI fb base v vw vp l ws n D w) : ∀ k, freeF fb v vw vp k → base ≤ k := fun k hk => by
  rcases hk with rfl | hk | hk | hk
  · exact h.fbb
  · obtain ⟨_, _, hb⟩ := row_block h.pile.1.2.2.1 hk
    exact hb
  · obtain ⟨_, _, hb⟩ := row_block h.row hk
    exact hb
  · rcases h.pins with ⟨e, _⟩ | ⟨b, e, hb, ho⟩
    · rw [e] at hk; cases hk
    · rw [e] at hk; injection hk with hk; injection hk with hk; subst hk; exact hb
/-- The pile's numbers lie apart from what waits. -/
theorem FrI.apart1 (h : FrI fb base v vw vp l ws n D w) {g : Nat} (h1 : v.ownBlock = some g) (h2 : vw.ownBlock = some g) : False := by
  obtain ⟨c1, e1, _⟩ := row_block h.pile.1.2.2.1 h1
  obtain ⟨c2, e2, _⟩ := row_block h.row h2
  rw [e1] at e2
  injection e2 with e2
  injection e2 with _ e2 _
  cases e2
theorem FrI.apart2 (h : FrI fb base v vw vp l ws n D w) {k1 : Nat} (h1 : k1 = fb ∨ v.ownBlock = some k1 ∨ vw.ownBlock = some k1) (h2 : vp = .map (some k1)) : False := by
  have hc : ∃ cur e fz, w.heap[k1]? = some (.cells cur e fz) := by
    rcases h1 with rfl | h1 | h1
    · exact cell_is_cells h.c1
    · obtain ⟨c1, e1, _⟩ := row_block h.pile.1.2.2.1 h1
      exact ⟨_, _, _, e1⟩
    · obtain ⟨c1, e1, _⟩ := row_block h.row h1
      exact ⟨_, _, _, e1⟩
  obtain ⟨cur, e, fz, hc⟩ := hc
  rcases h.pins with ⟨e9, _⟩ | ⟨b, e9, _, ho⟩
  · rw [e9] at h2; cases h2
  · rw [e9] at h2; injection h2 with h2; injection h2 with h2
    subst h2
    obtain ⟨es, cl, hm⟩ := map_block ho
    rw [hc] at hm
    cases hm
theorem PinsI.keep {S : Nat → Prop} (h : PinsI base vp n D w) (hF : Fr S w w') (hS : ∀ k, vp = .map (some k) → ¬ S k) : PinsI base vp n D w' := by
  rcases h with h | ⟨b, e, hb, ho⟩
  · exact .inl h
  · exact .inr ⟨b, e, hb, own_fr ho hF (hS b e)⟩
theorem FrI.keep {S : Nat → Prop} (h : FrI fb base v vw vp l ws n D w) (hF : Fr S w w') (hS : ∀ k, freeF fb v vw vp k → ¬ S k) : FrI fb base v vw vp l ws n D w' := by
  have hlt := cell_lt h.c1
  exact ⟨h.pile.keep hF (fun k hk => hS k (hk.imp id .inl)), (hF.cell hlt (hS fb (.inl rfl))).trans h.c1, (hF.frozen hlt (hS fb (.inl rfl))).trans h.f1, hF.owns h.row (fun g hg => hS g (.inr (.inr (.inl hg)))), h.n1,
    (hF.cell (p := ⟨fb, 2, none⟩) hlt (hS fb (.inl rfl))).trans h.c2, (hF.frozen (p := ⟨fb, 2, none⟩) hlt (hS fb (.inl rfl))).trans h.f2, h.pins.keep hF (fun k hk => hS k (.inr (.inr (.inr hk)))), h.few, h.fbb⟩
/-- The pile is another one. -/
theorem FrI.piled {v' : Value} {l' : List Int} (h : FrI fb base v vw vp l ws n D w) (hI : PileI fb base v' l' w') (hF : Fr (pileF fb v) w w') (hO : Others fb 0 w w') : FrI fb base v' vw vp l' ws n D w' := by
  have hlt := cell_lt h.c1
  refine ⟨hI, ((hO 1 (by omega)).1).trans h.c1, ((hO 1 (by omega)).2).trans h.f1, hF.owns h.row (fun g hg => ?_), h.n1, ((hO 2 (by omega)).1).trans h.c2, ((hO 2 (by omega)).2).trans h.f2, h.pins.keep hF (fun k hk => ?_), h.few, h.fbb⟩
  · rintro (e | e)
    · exact h.n1 (by rw [hg, e])
    · exact h.apart1 e hg
  · rintro (e | e)
    · exact h.apart2 (.inl e) hk
    · exact h.apart2 (.inr (.inl e)) hk
end

/-- A Free as a whole (F: its blocks). -/
def Fe (fb base : Nat) (l : List Int) (ws : List (Int × Int)) (n : Nat) (D : DU) (F : Nat → Prop) (w : World) : Prop :=
  ∃ v vw vp, FrI fb base v vw vp l ws n D w ∧ F = freeF fb v vw vp



section
variable {fb base : Nat} {l : List Int} {ws : List (Int × Int)} {n : Nat} {D : DU} {F : Nat → Prop} {w w' : World}
theorem Fe.keep {S : Nat → Prop} (h : Fe fb base l ws n D F w) (hF : Fr S w w') (hS : ∀ k, F k → ¬ S k) : Fe fb base l ws n D F w' := by
  obtain ⟨v, vw, vp, h, rfl⟩ := h
  exact ⟨v, vw, vp, h.keep hF hS, rfl⟩
theorem Fe.below (h : Fe fb base l ws n D F w) (hb : Below w.heap.size w w') : Fe fb base l ws n D F w' := h.keep (Fr.of_all (S := fun _ => False) hb) (fun _ _ h => h)
theorem Fe.lt (h : Fe fb base l ws n D F w) : ∀ k, F k → k < w.heap.size := by
  obtain ⟨v, vw, vp, h, rfl⟩ := h
  exact h.lt
theorem Fe.ge (h : Fe fb base l ws n D F w) : ∀ k, F k → base ≤ k := by
  obtain ⟨v, vw, vp, h, rfl⟩ := h
  exact h.ge
theorem Fe.few (h : Fe fb base l ws n D F w) : l.length ≤ 1000000 ∧ ws.length ≤ 1000000 := by
  obtain ⟨v, vw, vp, h, rfl⟩ := h
  exact ⟨h.pile.1.2.2.2.2.1, h.few⟩

set_option maxRecDepth 100000 in
theorem fe_len (h : Fe fb base l ws n D F w) : Calls Tryz.prog 27 #[.pointer (some ⟨fb, 0, none⟩)] w fun e w' => e = .returned (.int .i64 l.length) ∧ w' = w := by
  obtain ⟨v, vw, vp, h, rfl⟩ := h
  have HLX := Lib.hid (pile_len fb base v l w h.pile)
  clear h
  go_enter Tryz.func27, Tryz.ntmps27
  go_wp2_with fail
  refine HLX.out.mono ?_
  rintro e w1 ⟨rfl, rfl⟩
  go_wp2
  go_ret
  exact ⟨rfl, rfl⟩

set_option maxRecDepth 100000 in
theorem fe_waiting (h : Fe fb base l ws n D F w) : Calls Tryz.prog 28 #[.pointer (some ⟨fb, 0, none⟩)] w fun e w' => e = .returned (.int .i64 ws.length) ∧ w' = w := by
  obtain ⟨v, vw, vp, h, rfl⟩ := h
  obtain ⟨p, c, rfl⟩ := owns_slice h.row
  have hc := h.c1
  clear h
  go_enter Tryz.func28, Tryz.ntmps28
  go_wp2
  go_ret
  exact ⟨rfl, rfl⟩

set_option maxRecDepth 100000 in
theorem fe_take_none (h : Fe fb base [] ws n D F w) : Calls Tryz.prog 10 #[.pointer (some ⟨fb, 0, none⟩)] w fun e w' => e = .returned (.tuple #[.int .i64 0, .bool false]) ∧ w' = w := by
  obtain ⟨v, vw, vp, h, rfl⟩ := h
  have HLX := Lib.hid (pile_take_none fb base v w h.pile)
  clear h
  go_enter Tryz.func10, Tryz.ntmps10
  go_wp2_with fail
  refine HLX.out.mono ?_
  rintro e w1 ⟨rfl, rfl⟩
  go_wp2
  go_ret2
  exact ⟨rfl, rfl⟩

set_option maxRecDepth 100000 in
theorem fe_take (h : Fe fb base l ws n D F w) (hn : 0 < l.length) : Calls Tryz.prog 10 #[.pointer (some ⟨fb, 0, none⟩)] w fun e w' => e = .returned (.tuple #[.int .i64 (HL.el l 0), .bool true]) ∧ ∃ l' F', Fe fb base l' ws n D F' w' ∧ (HL.el l 0 :: l').Perm l ∧ (∀ x ∈ l, HL.el l 0 ≤ x) ∧ Step F F' w w' := by
  obtain ⟨v, vw, vp, h, rfl⟩ := h
  have HLX := Lib.hid (pile_take_o fb base v l w h.pile hn)
  have HH := Lib.hid h
  clear h
  go_enter Tryz.func10, Tryz.ntmps10
  go_wp2_with fail
  refine HLX.out.mono ?_
  rintro e w1 ⟨rfl, v', l', hI, hp, hF, hv, hO⟩
  have HFE : Hid (∃ l' F', Fe fb base l' ws n D F' w1 ∧ (HL.el l 0 :: l').Perm l ∧ (∀ x ∈ l, HL.el l 0 ≤ x) ∧ Step (freeF fb v vw vp) F' w w1) := Lib.hid ⟨l', _, ⟨v', vw, vp, HH.out.piled hI hF hO, rfl⟩, hp, fun x hx => (by have e := HL.IsHeap.least_mem nlt_ord HH.out.pile.2 x hx; unfold nlt at e; simpa using e), hF.mono (fun i _ hi => hi.imp id .inl), fun k hk => .inl (hk.imp id (Or.imp (fun e => hv ▸ e) id))⟩
  clear hI hp hF hv hO
  go_wp2
  go_ret2
  exact ⟨rfl, HFE.out⟩
end
end Go.Proofs.YtedcpckocedcoaaGreat

/- free's Free: New, Back, Give. -/
namespace Go.Proofs.YtedcpckocedcoaaGreat
open Go.RowKit

section
variable {fb base : Nat} {v vw vp : Value} {l : List Int} {ws : List (Int × Int)} {np : Nat} {D : DU} {F : Nat → Prop} {w w' : World}

theorem FrI.waited (h : FrI fb base v vw vp l ws np D w) {X : Obj} {w1 : World} {g cap : Nat} {x : Int × Int} (hown : w1.ownsRow base 81 2 (.slice (some ⟨g, 0, none⟩) (ws.length + 1) cap) (ws.length + 1) (rowOf wtcells ws ++ wtcells x)) (hgr : (w.alloc X).grownBy w1 vw.ownBlock) (hat : vw.ownBlock = some g ∨ g = w.heap.size + 1) (hn : ws.length < 1000000) :
    FrI fb base v (.slice (some ⟨g, 0, none⟩) (ws.length + 1) cap) vp l (ws ++ [x]) np D (w1.setCell ⟨fb, 1, none⟩ (.slice (some ⟨g, 0, none⟩) (ws.length + 1) cap)) ∧ Step (freeF fb v vw vp) (freeF fb v (.slice (some ⟨g, 0, none⟩) (ws.length + 1) cap) vp) w (w1.setCell ⟨fb, 1, none⟩ (.slice (some ⟨g, 0, none⟩) (ws.length + 1) cap)) := by
  have hlt : fb < w.heap.size := cell_lt h.c1
  have hblk : w1.heap[fb]? = w.heap[fb]? := (hgr.block fb (by simp; omega) (fun e => h.n1 e.symm)).trans (Below.heap_alloc w X fb hlt)
  have hfr : Fr (fun k => k = fb ∨ vw.ownBlock = some k) w w1 := Fr.trans ((Fr.refl (fun k => k = fb ∨ vw.ownBlock = some k) w).alloc X) (Fr.of_grown (S := fun k => vw.ownBlock = some k) hgr (fun i _ e => e)) (fun i hi _ => .inr hi)
  obtain ⟨k1, k2, k3, k4, k5, k6, k7⟩ := push_end hlt h.n1 ⟨hblk, hfr⟩ hown hat (by omega) ((World.cell?_of_block (a := ⟨fb, 1, none⟩) hblk).trans h.c1) ((World.frozen?_of_block (a := ⟨fb, 1, none⟩) hblk).trans h.f1)
  have hlen : (ws ++ [x]).length = ws.length + 1 := by simp
  refine ⟨⟨⟨⟨(k7 0 (by omega)).1.trans h.pile.1.1, (k7 0 (by omega)).2.trans h.pile.1.2.1, k4.owns h.pile.1.2.2.1 (fun g' hg' => ?_), h.pile.1.2.2.2.1, h.pile.1.2.2.2.2.1, Nat.le_trans h.pile.1.2.2.2.2.2 k4.size⟩, h.pile.2⟩, k1, k2, ?_, fun e => k6 (by simpa [Value.ownBlock] using e), (k7 2 (by omega)).1.trans h.c2, (k7 2 (by omega)).2.trans h.f2, h.pins.keep k4 (fun k hk => ?_), by omega, h.fbb⟩, k4.mono (fun i _ hi => hi.imp id (fun e => .inr (.inl e))), fun k hk => ?_⟩
  · rintro (e | e)
    · exact h.pile.1.2.2.2.1 (by rw [hg', e])
    · exact h.apart1 hg' e
  · rw [hlen, rowOf_append, rowOf_one]
    exact k3
  · rintro (e | e)
    · exact h.apart2 (.inl e) hk
    · exact h.apart2 (.inr (.inr e)) hk
  · rcases hk with hk | hk | hk | hk
    · exact .inl (.inl hk)
    · exact .inl (.inr (.inl hk))
    · have : g = k := by simpa [Value.ownBlock] using hk
      subst this
      exact k5.imp (fun e => .inr (.inr (.inl e))) id
    · exact .inl (.inr (.inr (.inr hk)))

set_option maxRecDepth 100000 in
theorem fe_back (p : Option Addr) (n c : Nat) (zs : List Int) (h : Fe fb base l ws np D F w) (hz : RdI w w.heap.size p n zs) (hS : ∀ b o, p = some ⟨b, o, none⟩ → 0 < n → ¬ F b) (hn : l.length + n < 1000000) :
    Calls Tryz.prog 14 #[.pointer (some ⟨fb, 0, none⟩), .slice p n c] w fun e w' => e = .returned (.tuple #[]) ∧ ∃ l' F', Fe fb base l' ws np D F' w' ∧ l'.Perm (l ++ zs) ∧ Step F F' w w' := by
  obtain ⟨v, vw, vp, h, rfl⟩ := h
  have HLX := Lib.hid (pile_put_o fb base v l zs p n c w h.pile hz (fun b o e h0 hb => hS b o e h0 (hb.imp id .inl)) hn)
  have HH := Lib.hid h
  clear h hz hS hn
  go_enter Tryz.func14, Tryz.ntmps14
  go_wp2_with fail
  refine HLX.out.mono ?_
  rintro e w1 ⟨rfl, v', l', hI, hp, hF, hv, hO⟩
  have HFE : Hid (∃ l' F', Fe fb base l' ws np D F' w1 ∧ l'.Perm (l ++ zs) ∧ Step (freeF fb v vw vp) F' w w1) := Lib.hid ⟨l', _, ⟨v', vw, vp, HH.out.piled hI hF hO, rfl⟩, hp, hF.mono (fun i _ hi => hi.imp id .inl), fun k hk => by
    rcases hk with hk | hk | hk | hk
    · exact .inl (.inl hk)
    · exact (hv k hk).imp (fun e => .inr (.inl e)) id
    · exact .inl (.inr (.inr (.inl hk)))
    · exact .inl (.inr (.inr (.inr hk)))⟩
  clear hI hp hF hv hO
  go_wp2
  go_end0
  exact ⟨rfl, HFE.out⟩

theorem fe_fresh (w : World) : Fe w.heap.size w.heap.size [] [] 0 (.map []) (fun k => k = w.heap.size) (w.alloc (.cells #[.slice none 0 0, .slice none 0 0, .map none] 39)) := by
  have hb := heap_alloc_new w (.cells #[.slice none 0 0, .slice none 0 0, .map none] 39)
  have cc : ∀ k u, (#[Value.slice none 0 0, .slice none 0 0, .map none])[k]? = some u → (w.alloc (.cells #[.slice none 0 0, .slice none 0 0, .map none] 39)).cell? ⟨w.heap.size, k, none⟩ = some u := fun k u hu => by
    rw [cell_of_row _ _ _ _ _ _ hb]; exact hu
  have ff : ∀ k, (w.alloc (.cells #[.slice none 0 0, .slice none 0 0, .map none] 39)).frozen? ⟨w.heap.size, k, none⟩ = false := fun k => by
    unfold World.frozen?
    rw [hb]
    simp
  refine ⟨.slice none 0 0, .slice none 0 0, .map none, ⟨⟨⟨cc 0 _ rfl, ff 0, World.ownsRow_nil _ _ _ _, (by intro e; cases e), by simp, by simp⟩, HL.isHeap_nil⟩, cc 1 _ rfl, ff 1, World.ownsRow_nil _ _ _ _, (by intro e; cases e), cc 2 _ rfl, ff 2, .inl ⟨rfl, rfl⟩, by simp, Nat.le_refl _⟩, ?_⟩
  funext k
  unfold freeF
  simp [Value.ownBlock]

set_option maxRecDepth 100000 in
theorem fe_new (p : Option Addr) (n c : Nat) (zs : List Int) (w : World) (hz : RdI w w.heap.size p n zs) (hn : n < 1000000) :
    Calls Tryz.prog 7 #[.slice p n c] w fun e w' => e = .returned (.pointer (some ⟨w.heap.size, 0, none⟩)) ∧ ∃ l F, Fe w.heap.size w.heap.size l [] 0 (.map []) F w' ∧ l.Perm zs ∧ Below w.heap.size w w' := by
  have hb : Below w.heap.size w (w.alloc (.cells #[.slice none 0 0, .slice none 0 0, .map none] 39)) := (Below.refl _ w).alloc (Nat.le_refl _) _
  have HB := Lib.hid hb
  have HBK := Lib.hid (fe_back p n c zs (fe_fresh w) ((hz.below hb).more (by simp)) (fun b o e h0 hF => by
    obtain ⟨b', o', e', hlt, _⟩ := hz.2 h0
    rw [e] at e'
    injection e' with e'
    injection e' with e' _ _
    have : b = w.heap.size := hF
    omega) (by simpa using hn))
  clear hb hz hn
  go_enter Tryz.func7, Tryz.ntmps7
  go_wp2_with fail
  refine HBK.out.mono ?_
  rintro e w1 ⟨rfl, l', F', hI, hp, hS⟩
  have HX : Hid (∃ l F, Fe w.heap.size w.heap.size l [] 0 (.map []) F w1 ∧ l.Perm zs ∧ Below w.heap.size w w1) := Lib.hid ⟨l', F', hI, by simpa using hp, HB.out.trans (hS.1.below (by simp) (fun i hi => by have : i = w.heap.size := hi; omega))⟩
  clear hI hp hS
  go_wp2
  go_ret
  exact ⟨rfl, HX.out⟩

theorem info_wait : (Tryz.prog.info? 81).map (fun i => (i.zero, i.size, i.bytes)) = some (some (.agg #[.int .i64 0, .int .i64 0]), 2, 16) := by kernel_rfl

set_option maxHeartbeats 1000000 in
set_option maxRecDepth 100000 in
theorem fe_give (t : Int) (p : Option Addr) (n c : Nat) (zs : List Int) (h : Fe fb base l ws np D F w) (hz : RdI w w.heap.size p n zs) (hS : ∀ b o, p = some ⟨b, o, none⟩ → 0 < n → ¬ F b) (hn : ws.length + n < 1000000) :
    Calls Tryz.prog 12 #[.pointer (some ⟨fb, 0, none⟩), .int .i64 t, .slice p n c] w fun e w' => e = .returned (.tuple #[]) ∧ ∃ F', Fe fb base l (ws ++ zs.map (fun x => (t, x))) np D F' w' ∧ Step F F' w w' := by
  obtain ⟨i0, hi0, hz0, hz1, hz2⟩ := info_parts info_wait
  have HZ := Lib.hid hz
  have HS := Lib.hid hS
  have HST : Hid (Fe fb base l (ws ++ (zs.take 0).map (fun x => (t, x))) np D F w) := Lib.hid (by simpa using h)
  clear h hz hS
  go_enter Tryz.func12, Tryz.ntmps12
  go_wp2
  go_loopw [7, 12] (fun _ iv wr => ∃ (k : Nat) (F' : Nat → Prop), k ≤ n ∧ iv = .int .i64 k ∧ Hid (Fe fb base l (ws ++ (zs.take k).map (fun x => (t, x))) np D F' wr) ∧ Hid (Step F F' w wr)) (fun _ iv _ => n - (intOf iv).toNat)
  case atStart => exact ⟨0, F, Nat.zero_le _, rfl, HST, Lib.hid (Step.refl _ _)⟩
  case round =>
    clear HST
    obtain ⟨k, F', hk, rfl, hI, hst⟩ := hrel
    by_cases hlt : k < n
    · obtain ⟨b, o, e, hb, hc⟩ := HZ.out.2 (by omega)
      have hcell := (hst.out.1.cell (p := ⟨b, o + k, none⟩) hb (HS.out b o e (by omega))).trans (hc k hlt)
      have hlk : (zs.take k).length = k := by rw [List.length_take, HZ.out.1]; omega
      have htk : zs.take (k + 1) = zs.take k ++ [HL.el zs k] := by
        rw [List.take_succ_eq_append_getElem (by rw [HZ.out.1]; exact hlt)]
        have e9 := HL.el_eq zs k (by rw [HZ.out.1]; exact hlt)
        rw [List.getElem?_eq_getElem (by rw [HZ.out.1]; exact hlt)] at e9
        injection e9 with e9
        rw [e9]
      have HTK : Hid (ws ++ (zs.take (k + 1)).map (fun x => (t, x)) = (ws ++ (zs.take k).map (fun x => (t, x))) ++ [(t, HL.el zs k)]) := Lib.hid (by rw [htk]; simp)
      have hwl : (ws ++ (zs.take k).map (fun x => (t, x))).length < 1000000 := by rw [List.length_append, List.length_map, hlk]; omega
      clear hc hlk htk
      subst e
      obtain ⟨v, vw, vp, h, rfl⟩ := hI.out
      obtain ⟨q, d, rfl⟩ := owns_slice h.row
      have hc1 := h.c1
      have hf1 := h.f1
      have hfl : fb < wr.heap.size := cell_lt h.c1
      have hbs := h.pile.1.2.2.2.2.2
      have HH := Lib.hid h
      clear h hI
      generalize hwsk : ws ++ (zs.take k).map (fun x => (t, x)) = wsk at *
      have HWK := Lib.hid hwsk
      clear hwsk
      generalize HL.el zs k = x at *
      go_wp2_with (at_builtin; refine wpList_append_lies _ rfl _ _ 36 rfl base 81 i0 _ 2 16 Tryz.underlying36 hi0 hz0 hz1 hz2 rfl (by omega) (.slice q wsk.length d) wsk.length (rowOf wtcells wsk) rfl ?own ⟨wr.heap.size, 0, none⟩ 1 1 [.int .i64 t, .int .i64 x] rfl rfl ?cells ?one (by omega) ?len ?bytes ?base (wr.heap.size + 1) (by simp) ?_; (case own => exact HH.out.row.alloc _); (case cells => exact new_cells wr _ _); (case one => simp [Value.oneCell']); (case len => unfold maxLen; omega); (case bytes => omega); (case base => simp; omega); intro g cap w3 hown hgr hat hg
                   have hd3 : w3.heap[fb]? = wr.heap[fb]? := (hgr.block fb (by simp; omega) (fun e => HH.out.n1 e.symm)).trans (Below.heap_alloc wr _ fb hfl)
                   have hc3 := (World.cell?_of_block (a := ⟨fb, 1, none⟩) hd3).trans hc1
                   have hf3 := (World.frozen?_of_block (a := ⟨fb, 1, none⟩) hd3).trans hf1
                   have HA := Lib.hid (HH.out.waited (x := (t, x)) hown hgr hat hwl)
                   clear hown hgr hat hd3)
      go_roundw
      case rel => exact ⟨k + 1, _, by omega, by go_num, Lib.hid ⟨v, _, vp, by rw [HTK.out]; exact HA.out.1, rfl⟩, Lib.hid (hst.out.trans HA.out.2)⟩
      case measure => simp [intOf]; omega
    · obtain rfl : k = n := by omega
      go_wp2
      go_end0
      have htl : zs.take k = zs := List.take_of_length_le (by rw [HZ.out.1]; omega)
      refine ⟨rfl, F', ?_, hst.out⟩
      have := hI.out
      rw [htl] at this
      exact this
end
end Go.Proofs.YtedcpckocedcoaaGreat

/- free's Free: Pin, Unpin. -/
namespace Go.Proofs.YtedcpckocedcoaaGreat
open Go.RowKit
attribute [local go_sem] Oper.semAt_some

theorem keyI : Go.Maps.Keyed Tryz.prog 3 := Go.Maps.int_keyed Tryz.underlying3
theorem key_at {t : Int} (ht : (Lit.int .i64 t).wf = true) : keyOf Tryz.prog 3 (.int .i64 t) = some (.int .i64 t) := by
  simp [keyOf, Tryz.underlying3, mapKey, ht]
theorem map_nil_nil (w : World) : (binOp .eql 37 (.map none) (.map none)).run Tryz.prog w = .ok (.bool true) w := by kernel_rfl
theorem map_some_nil (b : Nat) (w : World) : (binOp .eql 37 (.map (some b)) (.map none)).run Tryz.prog w = .ok (.bool false) w := by kernel_rfl
theorem fr_turned {w w' : World} {b : Nat} (h : w.mapTurned w' b) : Fr (fun k => k = b) w w' := Fr.of_grown h.grown (fun i _ e => by cases e; rfl)
def litI (c : Int) : DU := .lit (.int .i64 c)

section
variable {fb base : Nat} {v vw vp : Value} {l : List Int} {ws : List (Int × Int)} {np : Nat} {D : DU} {F : Nat → Prop} {w w' : World}

/-- The map is another one. -/
theorem FrI.pinned {b n' : Nat} {D' : DU} (h : FrI fb base v vw (.map (some b)) l ws np D w) (ho : w'.ownsMap Tryz.prog 3 (plainElem Tryz.prog 3) b n' D') (hF : Fr (fun k => k = b) w w') : FrI fb base v vw (.map (some b)) l ws n' D' w' := by
  have hb : ∀ k, (k = fb ∨ v.ownBlock = some k ∨ vw.ownBlock = some k) → ¬ k = b := fun k hk e => h.apart2 hk (by rw [e])
  have hlt := cell_lt h.c1
  have hbb : base ≤ b := h.ge b (.inr (.inr (.inr rfl)))
  exact ⟨h.pile.keep hF (fun k hk => hb k (hk.imp id .inl)), (hF.cell (p := ⟨fb, 1, none⟩) hlt (hb fb (.inl rfl))).trans h.c1, (hF.frozen (p := ⟨fb, 1, none⟩) hlt (hb fb (.inl rfl))).trans h.f1, hF.owns h.row (fun g hg => hb g (.inr (.inr hg))), h.n1,
    (hF.cell (p := ⟨fb, 2, none⟩) hlt (hb fb (.inl rfl))).trans h.c2, (hF.frozen (p := ⟨fb, 2, none⟩) hlt (hb fb (.inl rfl))).trans h.f2, .inr ⟨b, rfl, hbb, ho⟩, h.few, h.fbb⟩

set_option maxHeartbeats 1000000 in
set_option maxRecDepth 100000 in
theorem pin_some {b n : Nat} (t : Int) (ht : (Lit.int .i64 t).wf = true) (hc : w.cell? ⟨fb, 2, none⟩ = some (.map (some b))) (ho : w.ownsMap Tryz.prog 3 (plainElem (H := Unit) Tryz.prog 3) b n D) (hn : n < 1000000) :
    Calls Tryz.prog 16 #[.pointer (some ⟨fb, 0, none⟩), .int .i64 t] w fun e w' => e = .returned (.tuple #[]) ∧ ∃ c, D.atKey (.int .i64 t) (litI 0) = litI c ∧ w'.ownsMap Tryz.prog 3 (plainElem (H := Unit) Tryz.prog 3) b (n + 1) (D.put (.int .i64 t) (litI (wrap64 (c + 1)))) ∧ Fr (fun k => k = b) w w' := by
  have hq := map_some_nil b
  obtain ⟨c, hlk, hat, hwc⟩ := ho.lookup_int keyI Tryz.underlying37 Tryz.underlying3 rfl (key_at ht)
  obtain ⟨w1, hup, ho1, ht1⟩ := ho.store keyI Tryz.underlying37 (by unfold maxLen; omega) (key_at ht) (plainElem_int (H := Unit) Tryz.underlying3 (wrap64_wf (c + 1)))
  have HAT := Lib.hid hat
  have HO := Lib.hid ho1
  have HF := Lib.hid (fr_turned ht1)
  clear hat ho1 ht1 ho hwc
  go_enter Tryz.func16, Tryz.ntmps16
  go_wp2
  go_end0
  exact ⟨rfl, c, HAT.out, HO.out, HF.out⟩

set_option maxHeartbeats 1000000 in
set_option maxRecDepth 100000 in
theorem pin_nil (t : Int) (ht : (Lit.int .i64 t).wf = true) (hc : w.cell? ⟨fb, 2, none⟩ = some (.map none)) (hf : w.frozen? ⟨fb, 2, none⟩ = false) :
    Calls Tryz.prog 16 #[.pointer (some ⟨fb, 0, none⟩), .int .i64 t] w fun e w' => e = .returned (.tuple #[]) ∧ w'.ownsMap Tryz.prog 3 (plainElem (H := Unit) Tryz.prog 3) w.heap.size 1 (DataW.put (.map []) (.int .i64 t) (litI 1)) ∧
      Fr (fun k => k = w.heap.size) ((w.setCell ⟨fb, 2, none⟩ (.map (some w.heap.size))).alloc (.map #[] 0)) w' := by
  have hq := map_nil_nil
  have hmm := @run_makeMap Tryz.prog
  have hlt : fb < w.heap.size := cell_lt hc
  have hsz0 : (w.setCell ⟨fb, 2, none⟩ (.map (some w.heap.size))).heap.size = w.heap.size := by simp [World.setCell]
  have own1 : ((w.setCell ⟨fb, 2, none⟩ (.map (some w.heap.size))).alloc (.map #[] 0)).ownsMap Tryz.prog 3 (plainElem (H := Unit) Tryz.prog 3) w.heap.size 0 (.map []) := by
    have := World.ownsMap_made (H := Unit) (w.setCell ⟨fb, 2, none⟩ (.map (some w.heap.size))) Tryz.prog 3 (plainElem Tryz.prog 3)
    rw [hsz0] at this
    exact this
  have c1 : ((w.setCell ⟨fb, 2, none⟩ (.map (some w.heap.size))).alloc (.map #[] 0)).cell? ⟨fb, 2, none⟩ = some (.map (some w.heap.size)) := by
    rw [World.cell?_of_block (a := ⟨fb, 2, none⟩) (Below.heap_alloc _ _ fb (by rw [hsz0]; exact hlt))]
    exact cell_set_same w _ _ _ hc
  obtain ⟨c, hlk, hat, hwc⟩ := own1.lookup_int keyI Tryz.underlying37 Tryz.underlying3 rfl (key_at ht)
  have hc0 : c = 0 := by
    have e : DataW.atKey (H := Unit) (.map []) (.int .i64 t) (.lit (.int .i64 0)) = .lit (.int .i64 0) := rfl
    rw [e] at hat
    injection hat with hat
    injection hat with _ hat
    exact hat.symm
  subst hc0
  obtain ⟨w1, hup, ho1, ht1⟩ := own1.store keyI Tryz.underlying37 (by unfold maxLen; omega) (key_at ht) (plainElem_int (H := Unit) Tryz.underlying3 (show (Lit.int .i64 1).wf = true by decide))
  have HO := Lib.hid ho1
  have HF := Lib.hid (fr_turned ht1)
  clear hat ho1 ht1 own1 hwc
  go_enter Tryz.func16, Tryz.ntmps16
  go_wp2
  go_end0
  exact ⟨rfl, HO.out, HF.out⟩

theorem PinsI.few (h : PinsI base vp np D w) : vp = .map none ∨ ∃ b, vp = .map (some b) := by
  rcases h with ⟨e, _⟩ | ⟨b, e, _⟩
  · exact .inl e
  · exact .inr ⟨b, e⟩

/-- Pin. -/
theorem fe_pin (t : Int) (ht : (Lit.int .i64 t).wf = true) (h : Fe fb base l ws np D F w) (hn : np < 1000000) :
    Calls Tryz.prog 16 #[.pointer (some ⟨fb, 0, none⟩), .int .i64 t] w fun e w' => e = .returned (.tuple #[]) ∧ ∃ c F', D.atKey (.int .i64 t) (litI 0) = litI c ∧ Fe fb base l ws (np + 1) (D.put (.int .i64 t) (litI (wrap64 (c + 1)))) F' w' ∧ Step F F' w w' := by
  obtain ⟨v, vw, vp, h, rfl⟩ := h
  rcases h.pins with ⟨rfl, rfl⟩ | ⟨b, rfl, hb, ho⟩
  · refine (pin_nil t ht h.c2 h.f2).mono ?_
    rintro e w' ⟨he, ho, hF⟩
    have hlt : fb < w.heap.size := cell_lt h.c1
    have hsz0 : (w.setCell ⟨fb, 2, none⟩ (.map (some w.heap.size))).heap.size = w.heap.size := by simp [World.setCell]
    have hF0 : Fr (fun k => k = fb) w ((w.setCell ⟨fb, 2, none⟩ (.map (some w.heap.size))).alloc (.map #[] 0)) := ((Fr.refl (fun k => k = fb) w).setCell (p := ⟨fb, 2, none⟩) (fun _ => rfl) _).alloc _
    have hO0 : Others fb 2 w ((w.setCell ⟨fb, 2, none⟩ (.map (some w.heap.size))).alloc (.map #[] 0)) := (Others.set fb 2 w _).trans (Others.of_block (Below.heap_alloc _ _ _ (by rw [hsz0]; exact hlt)))
    have hO1 : Others fb 2 ((w.setCell ⟨fb, 2, none⟩ (.map (some w.heap.size))).alloc (.map #[] 0)) w' := Others.of_block (hF.block fb (by rw [World.size_alloc, hsz0]; omega) (by show ¬ fb = w.heap.size; omega))
    have hO := hO0.trans hO1
    have hFw : Fr (fun k => k = fb) w w' := Fr.trans hF0 hF (fun i hi hlt => by have : i = w.heap.size := hi; omega)
    have hc2 : w'.cell? ⟨fb, 2, none⟩ = some (.map (some w.heap.size)) := by
      rw [World.cell?_of_block (a := ⟨fb, 2, none⟩) (hF.block fb (by rw [World.size_alloc, hsz0]; omega) (by show ¬ fb = w.heap.size; omega)), World.cell?_of_block (a := ⟨fb, 2, none⟩) (Below.heap_alloc _ _ fb (by rw [hsz0]; exact hlt))]
      exact cell_set_same w _ _ _ h.c2
    have hf2 : w'.frozen? ⟨fb, 2, none⟩ = false := by
      rw [World.frozen?_of_block (a := ⟨fb, 2, none⟩) (hF.block fb (by rw [World.size_alloc, hsz0]; omega) (by show ¬ fb = w.heap.size; omega)), World.frozen?_of_block (a := ⟨fb, 2, none⟩) (Below.heap_alloc _ _ fb (by rw [hsz0]; exact hlt)), frozen_set]
      exact h.f2
    refine ⟨he, 0, _, rfl, ⟨v, vw, .map (some w.heap.size), ⟨⟨⟨(hO 0 (by omega)).1.trans h.pile.1.1, (hO 0 (by omega)).2.trans h.pile.1.2.1, hFw.owns h.pile.1.2.2.1 (fun g hg e => h.pile.1.2.2.2.1 (by rw [hg, e])), h.pile.1.2.2.2.1, h.pile.1.2.2.2.2.1, Nat.le_trans h.pile.1.2.2.2.2.2 hFw.size⟩, h.pile.2⟩, (hO 1 (by omega)).1.trans h.c1, (hO 1 (by omega)).2.trans h.f1, hFw.owns h.row (fun g hg e => h.n1 (by rw [hg, e])), h.n1, hc2, hf2, .inr ⟨w.heap.size, rfl, h.pile.1.2.2.2.2.2, (by rw [show wrap64 (0 + 1) = 1 by unfold wrap64; omega]; exact ho.mono (show 1 ≤ np + 1 by omega))⟩, h.few, h.fbb⟩, rfl⟩, hFw.mono (fun i _ hi => .inl hi), fun k hk => ?_⟩
    rcases hk with hk | hk | hk | hk
    · exact .inl (.inl hk)
    · exact .inl (.inr (.inl hk))
    · exact .inl (.inr (.inr (.inl hk)))
    · injection hk with hk
      injection hk with hk
      exact .inr (by omega)
  · refine (pin_some t ht h.c2 ho hn).mono ?_
    rintro e w' ⟨he, c, hat, ho', hF⟩
    exact ⟨he, c, _, hat, ⟨v, vw, _, h.pinned ho' hF, rfl⟩, hF.mono (fun i _ hi => .inr (.inr (.inr (by rw [show i = b from hi])))), fun k hk => .inl hk⟩

theorem keyL (t : Int) : WideAt.IsKeyLit (.int .i64 t) := trivial
set_option maxRecDepth 100000 in
theorem atKey_litI {c : Int} {b n : Nat} (ho : w.ownsMap Tryz.prog 3 (plainElem (H := Unit) Tryz.prog 3) b n D) {t : Int} (ht : (Lit.int .i64 t).wf = true) (hat : D.atKey (.int .i64 t) (litI 0) = litI c) :
    (Instr.lookup 37 (.map (some b)) (.int .i64 t) false).run Tryz.prog w = .ok (.int .i64 c) w ∧ (Lit.int .i64 c).wf = true := by
  obtain ⟨c', hlk, hat', hwc⟩ := ho.lookup_int keyI Tryz.underlying37 Tryz.underlying3 rfl (key_at ht)
  have e : litI c = litI c' := hat.symm.trans hat'
  injection e with e
  injection e with _ e
  subst e
  exact ⟨hlk, hwc⟩

set_option maxRecDepth 100000 in
/-- No such pin. -/
theorem pins_none (hp : PinsI base vp np D w) (t : Int) (ht : (Lit.int .i64 t).wf = true) (hat : D.atKey (.int .i64 t) (litI 0) = litI 0) : (Instr.lookup 37 vp (.int .i64 t) false).run Tryz.prog w = .ok (.int .i64 0) w := by
  rcases hp with ⟨rfl, rfl⟩ | ⟨b, rfl, _, ho⟩
  · exact Go.Maps.look_nil false keyI Tryz.underlying37 (show (zeroValue 3).run Tryz.prog w = .ok (.int .i64 0) w from rfl) (key_at ht)
  · exact (atKey_litI ho ht hat).1

set_option maxRecDepth 100000 in
theorem fe_unpin_no (t : Int) (ht : (Lit.int .i64 t).wf = true) (h : Fe fb base l ws np D F w) (hat : D.atKey (.int .i64 t) (litI 0) = litI 0) :
    Calls Tryz.prog 18 #[.pointer (some ⟨fb, 0, none⟩), .int .i64 t] w fun e w' => e = .returned (.bool false) ∧ w' = w := by
  obtain ⟨v, vw, vp, h, rfl⟩ := h
  have hlk := pins_none h.pins t ht hat
  have hc := h.c2
  clear h
  go_enter Tryz.func18, Tryz.ntmps18
  go_wp2
  go_ret
  exact ⟨rfl, rfl⟩

set_option maxRecDepth 100000 in
theorem unpin_last {b n : Nat} (t : Int) (ht : (Lit.int .i64 t).wf = true) (hc : w.cell? ⟨fb, 2, none⟩ = some (.map (some b))) (ho : w.ownsMap Tryz.prog 3 (plainElem (H := Unit) Tryz.prog 3) b n D) (hn : n < 1000000) (hne : fb ≠ b) (hat : D.atKey (.int .i64 t) (litI 0) = litI 1) :
    Calls Tryz.prog 18 #[.pointer (some ⟨fb, 0, none⟩), .int .i64 t] w fun e w' => e = .returned (.bool true) ∧ w'.ownsMap Tryz.prog 3 (plainElem (H := Unit) Tryz.prog 3) b (n + 1) ((D.put (.int .i64 t) (litI 0)).del (.int .i64 t)) ∧ Fr (fun k => k = b) w w' := by
  have hlt := cell_lt hc
  have hlk := (atKey_litI ho ht hat).1
  obtain ⟨w1, hup, ho1, ht1⟩ := ho.store keyI Tryz.underlying37 (by unfold maxLen; omega) (key_at ht) (plainElem_int (H := Unit) Tryz.underlying3 (show (Lit.int .i64 0).wf = true by decide))
  have hlk1 := (atKey_litI ho1 ht (c := 0) (Go.Maps.atKey_put_same ho.isMap (keyL t) _ _)).1
  obtain ⟨w2, hdl, ho2, ht2⟩ := ho1.drop keyI Tryz.underlying37 (key_at ht) 0
  have hc1 := ((fr_turned ht1).cell (p := ⟨fb, 2, none⟩) hlt hne).trans hc
  have HO := Lib.hid ho2
  have HF := Lib.hid (Fr.trans (fr_turned ht1) (fr_turned ht2) (fun _ h _ => h))
  clear ho ho1 ho2 ht1 ht2 hat
  go_enter Tryz.func18, Tryz.ntmps18
  go_wp2
  go_ret
  exact ⟨rfl, HO.out, HF.out⟩

set_option maxRecDepth 100000 in
theorem unpin_more {b n : Nat} (t c : Int) (ht : (Lit.int .i64 t).wf = true) (hc : w.cell? ⟨fb, 2, none⟩ = some (.map (some b))) (ho : w.ownsMap Tryz.prog 3 (plainElem (H := Unit) Tryz.prog 3) b n D) (hn : n < 1000000) (hne : fb ≠ b) (hat : D.atKey (.int .i64 t) (litI 0) = litI c) (hc1 : 1 < c) (hcm : c < 1000000) :
    Calls Tryz.prog 18 #[.pointer (some ⟨fb, 0, none⟩), .int .i64 t] w fun e w' => e = .returned (.bool true) ∧ w'.ownsMap Tryz.prog 3 (plainElem (H := Unit) Tryz.prog 3) b (n + 1) (D.put (.int .i64 t) (litI (c - 1))) ∧ Fr (fun k => k = b) w w' := by
  have hlt := cell_lt hc
  have hlk := (atKey_litI ho ht hat).1
  have hw1 : (Lit.int .i64 (c - 1)).wf = true := by
    have := wrap64_wf (c - 1)
    rwa [show wrap64 (c - 1) = c - 1 by unfold wrap64; omega] at this
  obtain ⟨w1, hup, ho1, ht1⟩ := ho.store keyI Tryz.underlying37 (by unfold maxLen; omega) (key_at ht) (plainElem_int (H := Unit) Tryz.underlying3 hw1)
  have hlk1 := (atKey_litI ho1 ht (c := c - 1) (Go.Maps.atKey_put_same ho.isMap (keyL t) _ _)).1
  have hcx := ((fr_turned ht1).cell (p := ⟨fb, 2, none⟩) hlt hne).trans hc
  have HO := Lib.hid ho1
  have HF := Lib.hid (fr_turned ht1)
  have hz1 : (c == 0) = false := by rw [beq_eq_false_iff_ne]; omega
  have hz2 : (c - 1 == 0) = false := by rw [beq_eq_false_iff_ne]; omega
  clear ho ho1 ht1 hat
  go_enter Tryz.func18, Tryz.ntmps18
  go_wp2
  go_ret
  exact ⟨rfl, HO.out, HF.out⟩

/-- Unpin: of a pin that is the last of its number. -/
theorem fe_unpin_last (t : Int) (ht : (Lit.int .i64 t).wf = true) (h : Fe fb base l ws np D F w) (hn : np < 1000000) (hat : D.atKey (.int .i64 t) (litI 0) = litI 1) :
    Calls Tryz.prog 18 #[.pointer (some ⟨fb, 0, none⟩), .int .i64 t] w fun e w' => e = .returned (.bool true) ∧ ∃ F', Fe fb base l ws (np + 1) ((D.put (.int .i64 t) (litI 0)).del (.int .i64 t)) F' w' ∧ Step F F' w w' := by
  obtain ⟨v, vw, vp, h, rfl⟩ := h
  rcases h.pins with ⟨rfl, rfl⟩ | ⟨b, rfl, hb, ho⟩
  · exact absurd hat (fun e => by
      have e2 : (litI 0 : DU) = litI 1 := e
      injection e2 with e2
      injection e2 with _ e2
      cases e2)
  · refine (unpin_last t ht h.c2 ho hn (fun e => h.apart2 (.inl rfl) (by rw [e])) hat).mono ?_
    rintro e w' ⟨he, ho', hF⟩
    exact ⟨he, _, ⟨v, vw, _, h.pinned ho' hF, rfl⟩, hF.mono (fun i _ hi => .inr (.inr (.inr (by rw [show i = b from hi])))), fun k hk => .inl hk⟩
end
end Go.Proofs.YtedcpckocedcoaaGreat

/- free's Free: List, All. -/
namespace Go.Proofs.YtedcpckocedcoaaGreat
open Go.RowKit

section
variable {fb base : Nat} {v vw vp : Value} {l : List Int} {ws : List (Int × Int)} {np : Nat} {D : DU} {F : Nat → Prop} {w w' : World}

set_option maxRecDepth 100000 in
theorem fe_list (h : Fe fb base l ws np D F w) :
    Calls Tryz.prog 22 #[.pointer (some ⟨fb, 0, none⟩)] w fun e w' => ∃ u, e = .returned u ∧ w'.ownsRow w.heap.size 3 1 u l.length (rowOf ncells (CL.srt l)) ∧ Below w.heap.size w w' := by
  obtain ⟨v, vw, vp, h, rfl⟩ := h
  have HLX := Lib.hid (pile_list fb base v l w h.pile)
  clear h
  go_enter Tryz.func22, Tryz.ntmps22
  go_wp2_with fail
  refine HLX.out.mono ?_
  rintro e w1 ⟨u, rfl, ho⟩
  have HO := Lib.hid ho
  clear ho
  go_wp2
  go_ret
  exact ⟨u, rfl, HO.out⟩

theorem addr0 (g k : Nat) : (⟨g, 0, none⟩ : Addr).add k = ⟨g, k, none⟩ := by unfold Addr.add; split <;> simp_all
theorem row2_cell {g n cap : Nat} (ho : w.ownsRow base 81 2 (.slice (some ⟨g, 0, none⟩) n cap) ws.length (rowOf wtcells ws)) (k : Nat) (hk : k < ws.length) :
    w.cell? ⟨g, k * 2, none⟩ = some (.int .i64 (ws.getD k default).1) ∧ w.cell? ⟨g, k * 2 + 1, none⟩ = some (.int .i64 (ws.getD k default).2) := by
  have r0 := rowOf_at wtcells wtcells_length ws k 0 hk (by omega)
  have r1 := rowOf_at wtcells wtcells_length ws k 1 hk (by omega)
  rw [Nat.add_zero] at r0
  have c0 := ho.cells (g := g) rfl (k * 2) _ r0
  have c1 := ho.cells (g := g) rfl (k * 2 + 1) _ r1
  exact ⟨by rw [← addr0]; exact c0, by rw [← addr0]; exact c1⟩

def pagesOf (ws : List (Int × Int)) : List Int := ws.map Prod.snd
theorem pages_take (ws : List (Int × Int)) (k : Nat) (hk : k < ws.length) : (pagesOf ws).take (k + 1) = (pagesOf ws).take k ++ [(ws.getD k default).2] := by
  unfold pagesOf
  rw [List.take_succ_eq_append_getElem (by simpa using hk)]
  simp [hk]

set_option maxHeartbeats 1000000 in
set_option maxRecDepth 100000 in
theorem fe_all (h : Fe fb base l ws np D F w) (hn : l.length + ws.length ≤ 1000000) :
    Calls Tryz.prog 23 #[.pointer (some ⟨fb, 0, none⟩)] w fun e w' => ∃ u, e = .returned u ∧ w'.ownsRow w.heap.size 3 1 u (l.length + ws.length) (rowOf ncells (CL.srt (l ++ pagesOf ws))) ∧ Below w.heap.size w w' := by
  obtain ⟨i0, hi0, hz0, hz1, hz2⟩ := info_parts info_int
  obtain ⟨v, vw, vp, h, rfl⟩ := h
  have HLX := Lib.hid (pile_list fb base v l w h.pile)
  obtain ⟨q, d, rfl⟩ := owns_slice h.row
  have hc1 := h.c1
  have hfl : fb < w.heap.size := cell_lt h.c1
  have HR := Lib.hid h.row
  clear h
  go_enter Tryz.func23, Tryz.ntmps23
  go_wp2_with fail
  refine HLX.out.mono ?_
  rintro e w1 ⟨u, rfl, ho, hb⟩
  have hcx := (hb.cell (p := ⟨fb, 1, none⟩) hfl).trans hc1
  have HO1 : Hid (w1.ownsRow w.heap.size 3 1 u (l.length + 0) (rowOf ncells (CL.srt l ++ (pagesOf ws).take 0))) := Lib.hid (by simpa using ho)
  have HB1 := Lib.hid hb
  clear ho hb HLX
  go_wp2
  go_loopw [3, 5, 17] (fun ov _ iv wr => ∃ k : Nat, k ≤ ws.length ∧ iv = .int .i64 k ∧ Hid (wr.ownsRow w.heap.size 3 1 ov (l.length + k) (rowOf ncells (CL.srt l ++ (pagesOf ws).take k))) ∧ Hid (Below w.heap.size w wr)) (fun _ _ iv _ => ws.length - (intOf iv).toNat)
  case atStart => exact ⟨0, Nat.zero_le _, rfl, HO1, HB1⟩
  case round =>
    clear HO1
    obtain ⟨k, hk, rfl, ho, hb⟩ := hrel
    by_cases hlt : k < ws.length
    · obtain ⟨g, cap, hv, _, hg, _⟩ := owns_len HR.out (by omega)
      injection hv with hv1 _ _
      subst hv1
      obtain ⟨x0, x1⟩ := row2_cell HR.out k hlt
      have y0 := (hb.out.cell (p := ⟨g, k * 2, none⟩) hg).trans x0
      have y1 := (hb.out.cell (p := ⟨g, k * 2 + 1, none⟩) hg).trans x1
      have HTK : Hid (rowOf ncells (CL.srt l ++ (pagesOf ws).take (k + 1)) = rowOf ncells (CL.srt l ++ (pagesOf ws).take k) ++ [.int .i64 (ws.getD k default).2]) := Lib.hid (by
        rw [pages_take ws k hlt, ← List.append_assoc, rowOf_append, rowOf_one]
        rfl)
      have hbs := hb.out.size
      clear x0 x1
      generalize (ws.getD k default).1 = tx at *
      generalize (ws.getD k default).2 = px at *
      generalize rowOf ncells (CL.srt l ++ (pagesOf ws).take k) = row at *
      go_wp2_with (at_builtin; refine wpList_append_own _ rfl _ _ 22 rfl w.heap.size 3 i0 _ 1 8 Tryz.underlying22 hi0 hz0 hz1 hz2 rfl (by omega) _ (l.length + k) row rfl ((ho.out.alloc _).alloc _) ⟨wr.heap.size + 1, 0, none⟩ 1 1 [.int .i64 px] rfl rfl ?c2 ?c3 ?c4 ?c5 ?c6 ?_; (case c2 => intro j u hu; have e9 := new_cells (wr.alloc (.cells #[.int .i64 tx, .int .i64 px] 81)) [.int .i64 px] 3 j u hu; rw [World.size_alloc] at e9; exact e9); (case c3 => simp [Value.oneCell']); (case c4 => unfold maxLen; omega); (case c5 => omega); (case c6 => simp; omega); intro v4 w4 hown4 hgr4 _; have H4 := Lib.hid hown4; have HB4 : Hid (Below w.heap.size w w4) := Lib.hid (((hb.out.alloc hb.out.size _).alloc (by simp; omega) _).grown hgr4 (by simp; omega) (fun k hk => (ho.out.lt k hk).1)); clear hown4 hgr4)
      go_roundw
      case rel => exact ⟨_, _, _, ⟨k + 1, by omega, by go_num, by rw [HTK.out]; exact H4⟩, rfl, rfl, rfl⟩
      case measure => simp [intOf]; omega
    · obtain rfl : k = ws.length := by omega
      have hpl : (pagesOf ws).take ws.length = pagesOf ws := List.take_of_length_le (by simp [pagesOf])
      have hlen : (CL.srt l ++ pagesOf ws).length = l.length + ws.length := by rw [List.length_append, CL.srt_length]; simp [pagesOf]
      have hrow : wr.ownsRow w.heap.size 3 1 u3 (CL.srt l ++ pagesOf ws).length ((CL.srt l ++ pagesOf ws).map (Value.int .i64)) := by
        rw [hlen, ← rowOf_map]
        have := ho.out
        rwa [hpl] at this
      have HS := Lib.hid (sort_own w.heap.size u3 (CL.srt l ++ pagesOf ws) wr (by omega) hrow)
      have HLT := Lib.hid (fun k hk => (hrow.lt k hk).1)
      have hsrt : CL.srt (CL.srt l ++ pagesOf ws) = CL.srt (l ++ pagesOf ws) := CL.srt_of_perm ((CL.srt_perm l).append_right _)
      rw [hsrt, hlen] at HS
      clear hrow ho hpl hlen hsrt
      go_wp2_with fail
      refine HS.out.mono ?_
      rintro e w2 ⟨rfl, ho2, hg2⟩
      have HO2 := Lib.hid ho2
      have HB2 : Hid (Below w.heap.size w w2) := Lib.hid (hb.out.grown hg2 hb.out.size HLT.out)
      clear ho2 hg2
      go_wp2
      go_ret
      exact ⟨u3, rfl, by rw [rowOf_map]; exact HO2.out, HB2.out⟩
end
end Go.Proofs.YtedcpckocedcoaaGreat

/- free's Free: the pins' numbers, collected. -/
namespace Go.Proofs.YtedcpckocedcoaaGreat
open Go.RowKit Go.Maps Go.Sort Go.Shelf

theorem keys_call (mb : Option Nat) (W : World) : Calls Tryz.prog 44 #[.map mb] W fun e w' => e = .returned (.func (.func 108) #[] #[.pointer (some ⟨W.heap.size, 0, none⟩)]) ∧ w' = W.alloc (.cells #[.map mb] 37) :=
  (callsIn_wide (n := 5)).1 (AnyZI.keys_in Tryz.keysK Fence.wide 5 trivial rfl mb W)

theorem collect_keys {base n : Nat} {vp : Value} {D : DU} {w : World} (h : PinsI base vp n D w) (hn : n ≤ 1000000) :
    ∃ mb, vp = .map mb ∧ Calls Tryz.prog 43 #[.func (.func 108) #[] #[.pointer (some ⟨w.heap.size, 0, none⟩)]] (w.alloc (.cells #[vp] 37)) fun e w' => ∃ v ss, e = .returned v ∧ ss.Perm (intKeys D) ∧ w'.ownsRow w.heap.size 3 1 v ss.length (rowOf ncells ss) ∧ ss.length ≤ 1000000 ∧ Below w.heap.size (w.alloc (.cells #[vp] 37)) w' := by
  have fin : ∀ {e : Ending} {w' : World} {ss : List Int} {v : Value}, w'.ownsRow (w.alloc (.cells #[vp] 37)).heap.size 3 1 v ss.length (ss.map encZ) → w'.ownsRow w.heap.size 3 1 v ss.length (rowOf ncells ss) := fun {e w' ss v} ho => by
    rw [rowOf_map]
    refine ⟨ho.1, ?_⟩
    rcases ho.2 with e | ⟨g, c, cur, e, hbase, rest⟩
    · exact .inl e
    · exact .inr ⟨g, c, cur, e, by simp at hbase; omega, rest⟩
  rcases h with ⟨rfl, rfl⟩ | ⟨b, rfl, _, ho⟩
  · have hseq : SeqGives Fence.wide 1 Tryz.prog 108 #[.pointer (some ⟨w.heap.size, 0, none⟩)] encZ (fun ss : List Int => ss = []) 0 (w.alloc (.cells #[.map none] 37)) :=
      AnyZI.keys_gives_nil (ρ := Tryz.keysK_ren) { Tryz.keysK with } Fence.wide _ trivial rfl w.heap.size _ (by simp) (by simp)
    have cS := AnyZI.collect_in Tryz.collectK Fence.wide 3 trivial trivial rfl (by omega) 108 #[.pointer (some ⟨w.heap.size, 0, none⟩)] trivial (enters_of Tryz.func108 (by kernel_rfl) rfl) _ 0 (Nat.zero_le _) (by omega) _ hseq
    change CallsIn _ _ Tryz.prog 43 _ _ _ at cS
    refine ⟨none, rfl, ((callsIn_wide (n := 3)).1 cS).mono ?_⟩
    rintro e w' ⟨v, ss, he, rfl, hrow, _, hb⟩
    exact ⟨v, [], he, List.Perm.refl _, fin (e := e) hrow, by simp, hb.mono (by simp)⟩
  · have hbl := ho.lt
    have hsz := ho.size_le
    have hseq : SeqGives Fence.wide 1 Tryz.prog 108 #[.pointer (some ⟨w.heap.size, 0, none⟩)] encZ (fun ss => ss.Perm (intKeys D)) (Maps.size D) (w.alloc (.cells #[.map (some b)] 37)) :=
      AnyZI.keys_gives (ρ := Tryz.keysK_ren) { Tryz.keysK with } Fence.wide _ trivial rfl (by omega) w.heap.size b n D _ (by simp) (by simp) (own_fr ho ((Fr.refl (fun _ => False) w).alloc _) (fun h => h))
    have cS := AnyZI.collect_in Tryz.collectK Fence.wide 3 trivial trivial rfl (by omega) 108 #[.pointer (some ⟨w.heap.size, 0, none⟩)] trivial (enters_of Tryz.func108 (by kernel_rfl) rfl) _ (Maps.size D) (by unfold maxLen; omega) (by omega) _ hseq
    change CallsIn _ _ Tryz.prog 43 _ _ _ at cS
    refine ⟨some b, rfl, ((callsIn_wide (n := 3)).1 cS).mono ?_⟩
    rintro e w' ⟨v, ss, he, hp, hrow, _, hb⟩
    have hl : ss.length = Maps.size D := by
      rw [hp.length_eq]
      obtain ⟨es, rfl⟩ := ho.isMap
      simp [intKeys, Maps.size]
    exact ⟨v, ss, he, hp, fin (e := e) hrow, by omega, hb.mono (by simp)⟩
end Go.Proofs.YtedcpckocedcoaaGreat

/- free's Free: the function that Release hands to slices.DeleteFunc. -/
namespace Go.Proofs.YtedcpckocedcoaaGreat
open Go.RowKit

/-- What that function has caught. -/
def RelE (Bp Bb Bf fb : Nat) (pinned : Bool) (border : Int) (w : World) : Prop :=
  w.cell? ⟨Bp, 0, none⟩ = some (.bool pinned) ∧ w.cell? ⟨Bb, 0, none⟩ = some (.int .i64 border) ∧ w.cell? ⟨Bf, 0, none⟩ = some (.pointer (some ⟨fb, 0, none⟩))
def goes (pinned : Bool) (border : Int) (x : Int × Int) : Bool := !pinned || decide (x.1 ≤ border)
theorem RelE.keep {Bp Bb Bf fb : Nat} {pinned : Bool} {border : Int} {w w' : World} {S : Nat → Prop} (h : RelE Bp Bb Bf fb pinned border w) (hF : Fr S w w') (h1 : ¬ S Bp) (h2 : ¬ S Bb) (h3 : ¬ S Bf) : RelE Bp Bb Bf fb pinned border w' :=
  ⟨(hF.cell (p := ⟨Bp, 0, none⟩) (cell_lt h.1) h1).trans h.1, (hF.cell (p := ⟨Bb, 0, none⟩) (cell_lt h.2.1) h2).trans h.2.1, (hF.cell (p := ⟨Bf, 0, none⟩) (cell_lt h.2.2) h3).trans h.2.2⟩

section
variable {Bp Bb Bf fb base : Nat} {pinned : Bool} {border t p : Int} {v : Value} {l : List Int} {w : World}

set_option maxRecDepth 100000 in
theorem rel_no (h : RelE Bp Bb Bf fb pinned border w) (hg : goes pinned border (t, p) = false) :
    Calls Tryz.prog 47 #[.agg #[.int .i64 t, .int .i64 p], .pointer (some ⟨Bp, 0, none⟩), .pointer (some ⟨Bb, 0, none⟩), .pointer (some ⟨Bf, 0, none⟩)] w fun e w' => e = .returned (.bool false) ∧ Below w.heap.size w w' := by
  obtain ⟨c0, c1, c2⟩ := h
  unfold goes at hg
  obtain ⟨rfl, ht⟩ : pinned = true ∧ ¬ t ≤ border := by
    cases pinned
    · simp at hg
    · simpa using hg
  clear hg
  have hl0 := cell_lt c0
  have hl1 := cell_lt c1
  have HB := Lib.hid (fun a => (Below.refl w.heap.size w).alloc (Nat.le_refl _) a)
  go_enter Tryz.func47, Tryz.ntmps47
  go_wp2
  go_ret
  exact ⟨rfl, HB.out _⟩

set_option maxHeartbeats 2000000 in
set_option maxRecDepth 100000 in
theorem rel_yes (h : RelE Bp Bb Bf fb pinned border w) (hI : PileI fb base v l w) (hn : l.length + 1 < 1000000) (hg : goes pinned border (t, p) = true) :
    Calls Tryz.prog 47 #[.agg #[.int .i64 t, .int .i64 p], .pointer (some ⟨Bp, 0, none⟩), .pointer (some ⟨Bb, 0, none⟩), .pointer (some ⟨Bf, 0, none⟩)] w fun e w' => e = .returned (.bool true) ∧ ∃ v' l', PileI fb base v' l' w' ∧ l'.Perm (l ++ [p]) ∧ Fr (pileF fb v) w w' ∧ (∀ g, v'.ownBlock = some g → Lies v g w.heap.size) ∧ Others fb 0 w w' := by
  obtain ⟨c0, c1, c2⟩ := h
  have hl0 := cell_lt c0
  have hl1 := cell_lt c1
  have hl2 := cell_lt c2
  have HI := Lib.hid hI
  have hb : (!pinned || decide (t ≤ border)) = true := hg
  clear hI hg
  have hl : PileI fb base v l ((w.alloc (.cells #[.int .i64 t, .int .i64 p] 81)).drew.alloc (.cells #[.int .i64 p] 3)) := HI.out.keep ((((Fr.refl (fun _ => False) w).alloc _).drew).alloc _) (fun _ _ h => h)
  have HF0 : Hid (Fr (pileF fb v) w ((w.alloc (.cells #[.int .i64 t, .int .i64 p] 81)).drew.alloc (.cells #[.int .i64 p] 3))) := Lib.hid ((((Fr.refl _ w).alloc _).drew).alloc _)
  have HO0 : Hid (Others fb 0 w ((w.alloc (.cells #[.int .i64 t, .int .i64 p] 81)).drew.alloc (.cells #[.int .i64 p] 3))) := Lib.hid (Others.of_block ((((Fr.refl (fun _ => False) w).alloc _).drew.alloc _).block fb (cell_lt HI.out.1.1) (fun h => h)))
  have HLT : Hid (∀ g, v.ownBlock = some g → g < w.heap.size) := Lib.hid (fun g hg => by
    obtain ⟨_, hb, _⟩ := row_block HI.out.1.2.2.1 hg
    exact (Array.getElem?_eq_some_iff.1 hb).1)
  have HFB : Hid (fb < w.heap.size) := Lib.hid (cell_lt HI.out.1.1)
  have HP := Lib.hid (pile_put_o fb base v l [p] (some ⟨w.heap.size + 1, 0, none⟩) 1 1 _ hl ⟨rfl, fun _ => ⟨w.heap.size + 1, 0, rfl, by simp, fun k hk => by
    obtain rfl : k = 0 := by omega
    have e9 := new_cells ((w.alloc (.cells #[.int .i64 t, .int .i64 p] 81)).drew) [.int .i64 p] 3 0 _ rfl
    rw [addr0] at e9
    have hz : ((w.alloc (.cells #[.int .i64 t, .int .i64 p] 81)).drew).heap.size = w.heap.size + 1 := by simp
    rw [hz] at e9
    exact e9⟩⟩ (fun b o e _ hF => by
    injection e with e
    injection e with e _ _
    subst e
    rcases hF with hF | hF
    · have := HFB.out; omega
    · have := HLT.out _ hF; omega) hn)
  clear hl
  have hcase : pinned = false ∨ (pinned = true ∧ t ≤ border) := by
    cases pinned
    · exact .inl rfl
    · exact .inr ⟨rfl, by simpa using hb⟩
  clear hb
  rcases hcase with rfl | ⟨rfl, htb⟩
  all_goals
    go_enter Tryz.func47, Tryz.ntmps47
    go_wp2_with fail
    go_region_with (go_at_call 40; refine HP.out.mono ?_; rintro e w2 ⟨rfl, v', l', hI2, hp2, hF2, hL2, hO2⟩; have HFIN : Hid (∃ v' l', PileI fb base v' l' w2 ∧ l'.Perm (l ++ [p]) ∧ Fr (pileF fb v) w w2 ∧ (∀ g, v'.ownBlock = some g → Lies v g w.heap.size) ∧ Others fb 0 w w2) := Lib.hid ⟨v', l', hI2, hp2, Fr.trans HF0.out hF2 (fun i hi _ => hi), fun g hg => (hL2 g hg).imp id (fun h => Nat.le_trans HF0.out.size h), HO0.out.trans hO2⟩; clear hI2 hp2 hF2 hL2 hO2)
    all_goals
      go_wp2
      go_ret
      exact ⟨rfl, HFIN.out⟩
end
end Go.Proofs.YtedcpckocedcoaaGreat

/- free's Free: slices.IndexFunc with the function that Release hands on. -/
namespace Go.Proofs.YtedcpckocedcoaaGreat
open Go.RowKit

/-- A function value is called: R holds of what it returns. -/
def CallV (P : Program) (fv : Value) (args : Array Value) (w : World) (R : Value → World → Prop) : Prop :=
  ∃ f args', (do let d ← Deferred.ofValue fv args; invoke d.target d.args : Sem Next).run P w = .ok (.enter f args') w ∧ Calls P f args' w fun e w' => ∃ v, e = .returned v ∧ R v w'

section
variable {P : Program} {ops : Array Oper} {rest : List Oper} {a : Act} {w : World} {Q : Exit → Act → World → Prop} {fv v1 : Value} {R : Value → World → Prop}
  {r x1 : Operand} {ts : Array TypeId} {d : Option Tmp} {ty : TypeId} {pos : String} {af : Array Edge} {g : Option (Nat × Bool)}
theorem wpV1 (hC : CallV P fv #[v1] w R) (hw : Region.wanted ⟨d, .call { callee := .value r, args := #[x1], argTypes := ts }, ty, pos, af, g⟩ (yielded ops a.tmps) = true) (hit : a.eval r = fv) (h1 : a.eval x1 = v1)
    (h : ∀ v w', R v w' → wpList P ops Q rest (a.put d v) w') : wpList P ops Q (⟨d, .call { callee := .value r, args := #[x1], argTypes := ts }, ty, pos, af, g⟩ :: rest) a w := by
  refine wpList_step fun K hK => ?_
  rw [if_pos hw]
  obtain ⟨f, xs, e1, e2⟩ := hC
  have e3 : (execOp a.eval ⟨d, .call { callee := .value r, args := #[x1], argTypes := ts }, ty, pos, af, g⟩).run P w = .ok (.enter f xs) w := by
    rw [← e1]
    simp only [execOp, resolve, List.map_toArray, List.map_cons, List.map_nil, hit, h1]
  unfold Oper.wp
  rw [e3]
  simp only [Oper.upon]
  exact e2.mono fun e w' ⟨v, he, hr⟩ => by subst he; exact hK _ _ (h v w' hr)
end

/-- The pile has had these put into it (T: what else may have been written). -/
def PutS (fb base : Nat) (v0 : Value) (l0 : List Int) (T : Nat → Prop) (w0 : World) (ps : List Int) (wr : World) : Prop :=
  ∃ v l, PileI fb base v l wr ∧ l.Perm (l0 ++ ps) ∧ Fr (fun k => pileF fb v0 k ∨ T k) w0 wr ∧ (∀ g, v.ownBlock = some g → Lies v0 g w0.heap.size) ∧ Others fb 0 w0 wr
/-- The pile's blocks as it is now. -/
def curF (fb base : Nat) (wr : World) (k : Nat) : Prop := k = fb ∨ ∃ v l, PileI fb base v l wr ∧ v.ownBlock = some k

section
variable {fb base : Nat} {v0 : Value} {l0 : List Int} {T : Nat → Prop} {w0 wr w2 : World} {ps : List Int}
theorem PutS.start (h : PileI fb base v0 l0 w0) : PutS fb base v0 l0 T w0 [] w0 := ⟨v0, l0, h, by simp, Fr.refl _ _, fun _ hg => .inl hg, fun _ _ => ⟨rfl, rfl⟩⟩
theorem PutS.still {S : Nat → Prop} (h : PutS fb base v0 l0 T w0 ps wr) (hF : Fr S wr w2) (hS : ∀ k, k < wr.heap.size → S k → T k ∧ ¬ curF fb base wr k) : PutS fb base v0 l0 T w0 ps w2 := by
  obtain ⟨v, l, hI, hp, hF0, hL, hO⟩ := h
  have hlt : fb < wr.heap.size := cell_lt hI.1.1
  have hnS : ∀ k, pileF fb v k → ¬ S k := fun k hk hs => by
    rcases hk with rfl | hk
    · exact (hS _ hlt hs).2 (.inl rfl)
    · obtain ⟨_, hb, _⟩ := row_block hI.1.2.2.1 hk
      exact (hS k (Array.getElem?_eq_some_iff.1 hb).1 hs).2 (.inr ⟨v, l, hI, hk⟩)
  exact ⟨v, l, hI.keep hF hnS, hp, Fr.trans hF0 (hF.mono (T := T) (fun i hi hs => (hS i hi hs).1)) (fun i hi _ => .inr hi), hL, hO.trans (Others.of_block (hF.block fb hlt (hnS fb (.inl rfl))))⟩
theorem PutS.below (h : PutS fb base v0 l0 T w0 ps wr) (hb : Below wr.heap.size wr w2) : PutS fb base v0 l0 T w0 ps w2 :=
  h.still (Fr.of_all (S := fun _ => False) hb) (fun _ _ h => h.elim)
theorem PutS.mono {T' : Nat → Prop} (h : PutS fb base v0 l0 T w0 ps wr) (hT : ∀ k, T k → T' k) : PutS fb base v0 l0 T' w0 ps wr := by
  obtain ⟨v, l, hI, hp, hF0, hL, hO⟩ := h
  exact ⟨v, l, hI, hp, hF0.mono (fun k _ hk => hk.imp id (hT k)), hL, hO⟩
end

def clV (Bp Bb Bf : Nat) : Value := .func (.func 47) #[] #[.pointer (some ⟨Bp, 0, none⟩), .pointer (some ⟨Bb, 0, none⟩), .pointer (some ⟨Bf, 0, none⟩)]

section
variable {Bp Bb Bf fb base : Nat} {pinned : Bool} {border : Int} {v0 : Value} {l0 ps : List Int} {T : Nat → Prop} {w0 wr : World}
theorem rel_call (x : Int × Int) (h : RelE Bp Bb Bf fb pinned border wr) (hS : PutS fb base v0 l0 T w0 ps wr) (hn : l0.length + ps.length + 1 < 1000000) :
    CallV Tryz.prog (clV Bp Bb Bf) #[.agg #[.int .i64 x.1, .int .i64 x.2]] wr fun u w' => u = .bool (goes pinned border x) ∧ PutS fb base v0 l0 T w0 (ps ++ pagesOf ([x].filter (goes pinned border))) w' ∧ Fr (curF fb base wr) wr w' := by
  refine ⟨47, #[.agg #[.int .i64 x.1, .int .i64 x.2], .pointer (some ⟨Bp, 0, none⟩), .pointer (some ⟨Bb, 0, none⟩), .pointer (some ⟨Bf, 0, none⟩)], by kernel_rfl, ?_⟩
  cases hg : goes pinned border x with
  | false =>
    refine (rel_no h hg).mono ?_
    rintro e w' ⟨he, hb⟩
    refine ⟨_, he, rfl, ?_, Fr.of_all hb⟩
    rw [show pagesOf ([x].filter (goes pinned border)) = [] by simp [hg, pagesOf], List.append_nil]
    exact hS.below hb
  | true =>
    obtain ⟨v, l, hI, hp, hF0, hL, hO⟩ := hS
    have hlen : l.length = l0.length + ps.length := by rw [hp.length_eq, List.length_append]
    refine (rel_yes h hI (by omega) hg).mono ?_
    rintro e w' ⟨he, v', l', hI', hp', hF', hL', hO'⟩
    refine ⟨_, he, rfl, ?_, hF'.mono (fun k _ hk => hk.imp id (fun hk => ⟨v, l, hI, hk⟩))⟩
    rw [show pagesOf ([x].filter (goes pinned border)) = [x.2] by simp [hg, pagesOf]]
    refine ⟨v', l', hI', ?_, Fr.trans hF0 hF' (fun i hi hlt => ?_), fun g hg => ?_, hO.trans hO'⟩
    · rw [← List.append_assoc]
      exact hp'.trans (hp.append_right _)
    · rcases hi with hi | hi
      · exact .inl (.inl hi)
      · rcases hL i hi with h | h
        · exact .inl (.inr h)
        · omega
    · rcases hL' g hg with h | h
      · exact hL g h
      · exact .inr (Nat.le_trans hF0.size h)

/-- What the search ahead finds. -/
def IdxR (fb base : Nat) (v0 : Value) (l0 : List Int) (w0 : World) (go : Int × Int → Bool) (ws : List (Int × Int)) (r : Int) (w' : World) : Prop :=
  (r = -1 ∧ (∀ j, j < ws.length → go (ws.getD j default) = false) ∧ PutS fb base v0 l0 (fun _ => False) w0 [] w') ∨
  ∃ k : Nat, k < ws.length ∧ r = k ∧ (∀ j, j < k → go (ws.getD j default) = false) ∧ go (ws.getD k default) = true ∧ PutS fb base v0 l0 (fun _ => False) w0 [(ws.getD k default).2] w'

set_option maxHeartbeats 2000000 in
set_option maxRecDepth 100000 in
theorem idx_rel (g cap : Nat) (p : Option Addr) (ws : List (Int × Int)) (hp : 0 < ws.length → p = some ⟨g, 0, none⟩ ∧ g < w0.heap.size ∧ ¬ pileF fb v0 g)
    (hc : ∀ k, k < ws.length → w0.cell? ⟨g, k * 2, none⟩ = some (.int .i64 (ws.getD k default).1) ∧ w0.cell? ⟨g, k * 2 + 1, none⟩ = some (.int .i64 (ws.getD k default).2))
    (hE : RelE Bp Bb Bf fb pinned border w0) (h1 : ¬ pileF fb v0 Bp) (h2 : ¬ pileF fb v0 Bb) (h3 : ¬ pileF fb v0 Bf) (hI : PileI fb base v0 l0 w0) (hn : l0.length + ws.length < 900000) :
    Calls Tryz.prog 109 #[.slice p ws.length cap, clV Bp Bb Bf] w0 fun e w' => ∃ r : Int, e = .returned (.int .i64 r) ∧ IdxR fb base v0 l0 w0 (goes pinned border) ws r w' := by
  have HP := Lib.hid hp
  have HC := Lib.hid hc
  have HRC := Lib.hid (fun x wr (hS : PutS fb base v0 l0 (fun _ => False) w0 [] wr) => by
    obtain ⟨v, l, hI, hp, hF0, hL, hO⟩ := id hS
    exact rel_call x (hE.keep hF0 (fun h => h.elim h1 id) (fun h => h.elim h2 id) (fun h => h.elim h3 id)) hS (by simp; omega))
  have HST : Hid (PutS fb base v0 l0 (fun _ => False) w0 [] w0) := Lib.hid (PutS.start hI)
  have hbig : ws.length ≤ 1000000 := by omega
  clear hp hc hE h1 h2 h3 hI
  generalize clV Bp Bb Bf = cl at *
  go_enter Tryz.func109, Tryz.ntmps109
  go_wp2
  go_loopw [5, 8] (fun _ iv wr => ∃ k : Nat, k ≤ ws.length ∧ iv = .int .i64 k ∧ Hid (∀ j, j < k → goes pinned border (ws.getD j default) = false) ∧ Hid (PutS fb base v0 l0 (fun _ => False) w0 [] wr)) (fun _ iv _ => ws.length - (intOf iv).toNat)
  case atStart => exact ⟨0, Nat.zero_le _, rfl, Lib.hid (fun j hj => absurd hj (Nat.not_lt_zero j)), HST⟩
  case round =>
    clear HST
    obtain ⟨k, hk, rfl, hno, hS⟩ := hrel
    by_cases hlt : k < ws.length
    · obtain ⟨rfl, hgl, hgp⟩ := HP.out (by omega)
      obtain ⟨v, l, hI, hp, hF0, hL, hO⟩ := id hS.out
      obtain ⟨x0, x1⟩ := HC.out k hlt
      have y0 := (hF0.cell (p := ⟨g, k * 2, none⟩) hgl (fun h => h.elim hgp id)).trans x0
      have y1 := (hF0.cell (p := ⟨g, k * 2 + 1, none⟩) hgl (fun h => h.elim hgp id)).trans x1
      have HV := Lib.hid (HRC.out (ws.getD k default) wr hS.out)
      have HNX : Hid (goes pinned border (ws.getD k default) = false → ∀ j, j < k + 1 → goes pinned border (ws.getD j default) = false) := Lib.hid (fun h j hj => by
        rcases Nat.lt_or_ge j k with h1 | h1
        · exact hno.out j h1
        · obtain rfl : j = k := by omega
          exact h)
      have HHIT : Hid (∀ w', goes pinned border (ws.getD k default) = true → PutS fb base v0 l0 (fun _ => False) w0 [(ws.getD k default).2] w' → IdxR fb base v0 l0 w0 (goes pinned border) ws k w') := Lib.hid (fun w' h1 h2 => .inr ⟨k, hlt, rfl, hno.out, h1, h2⟩)
      clear hI hp hF0 hL hO x0 x1 hS
      generalize ws.getD k default = x at *
      obtain ⟨tx, px⟩ := x
      cases hg : goes pinned border (tx, px) with
      | false =>
        have e9 : pagesOf (([(tx, px)] : List (Int × Int)).filter (goes pinned border)) = [] := by simp [hg, pagesOf]
        rw [hg, e9, List.append_nil] at HV
        have HN2 := Lib.hid (HNX.out hg)
        clear hg e9 HNX HHIT
        go_wp2_with (first
          | ((with_reducible refine wpV1 HV.out ?_ ?_ ?_ ?_); rfl; rfl; rfl; rintro u w3 ⟨rfl, hS3, _⟩; have HS3 := Lib.hid hS3; clear hS3))
        go_roundw
        case rel => exact ⟨k + 1, by omega, by go_num, HN2, HS3⟩
        case measure => simp [intOf]; omega
      | true =>
        have e9 : pagesOf (([(tx, px)] : List (Int × Int)).filter (goes pinned border)) = [px] := by simp [hg, pagesOf]
        rw [hg, e9, List.nil_append] at HV
        have HH2 := Lib.hid (fun w' => HHIT.out w' hg)
        clear hg e9 HNX HHIT
        go_wp2_with (first
          | ((with_reducible refine wpV1 HV.out ?_ ?_ ?_ ?_); rfl; rfl; rfl; rintro u w3 ⟨rfl, hS3, _⟩; have HS3 := Lib.hid hS3; clear hS3))
        go_ret
        exact ⟨_, rfl, HH2.out _ HS3.out⟩
    · obtain rfl : k = ws.length := by omega
      have HFIN : Hid (IdxR fb base v0 l0 w0 (goes pinned border) ws (-1) wr) := Lib.hid (.inl ⟨rfl, hno.out, hS.out⟩)
      clear hno hS
      go_wp2
      go_ret
      exact ⟨_, rfl, HFIN.out⟩
end
end Go.Proofs.YtedcpckocedcoaaGreat

/- free's Free: slices.DeleteFunc with the function that Release hands on. -/
namespace Go.Proofs.YtedcpckocedcoaaGreat
open Go.RowKit

theorem zero_wait (w : World) : (zeroValue 81).run Tryz.prog w = .ok (.agg #[.int .i64 0, .int .i64 0]) w := by kernel_rfl

theorem run_clear2 (w : World) (ty : TypeId) (b o n c : Nat) (hn : 0 < n)
    (hc : ∀ j, j < n * 2 → (w.cell? ⟨b, o + j, none⟩).isSome = true) (hf : ∀ j, j < n * 2 → w.frozen? ⟨b, o + j, none⟩ = false) :
    (Builtin.clear_ #[36] ty #[.slice (some ⟨b, o, none⟩) n c]).run Tryz.prog w = .ok (.tuple #[]) (w.setCells b o (List.replicate (n * 2) (.int .i64 0))) := by
  have hzc : (Builtin.zeroCells (Value.agg #[.int .i64 0, .int .i64 0]).cells n).toList = List.replicate (n * 2) (.int .i64 0) := by
    simp only [Value.cells, Builtin.zeroCells]
    apply List.ext_getElem
    · simp
    · intro i h1 h2
      rcases Nat.mod_two_eq_zero_or_one i with h | h <;> simp [h]
  have hst := run_storeCells_cells (P := Tryz.prog) b o (List.replicate (n * 2) (Value.int .i64 0)) 0 w (by simpa using hc) (by simpa using hf) (by intro v hv'; rw [List.eq_of_mem_replicate hv']; rfl)
  simp only [Nat.add_zero] at hst
  obtain ⟨m, rfl⟩ : ∃ m, n = m + 1 := ⟨n - 1, by omega⟩
  simp [Builtin.clear_, run_underlying Tryz.underlying36, hzc, hst]

theorem setCells_row {base n g cap s : Nat} {e : TypeId} : ∀ (vs : List Value) (o : Nat) (w : World) (xs : List Value), w.ownsRow base e s (.slice (some ⟨g, 0, none⟩) n cap) n xs →
    ∃ xs', (w.setCells g o vs).ownsRow base e s (.slice (some ⟨g, 0, none⟩) n cap) n xs' ∧ xs'.take o = xs.take o ∧ Fr (fun k => k = g) w (w.setCells g o vs)
  | [], o, w, xs, h => ⟨xs, h, rfl, Fr.refl _ _⟩
  | v :: vs, o, w, xs, h => by
    have h1 := (h.stored o v).1
    obtain ⟨xs', h2, h3, h4⟩ := setCells_row vs (o + 1) _ _ h1
    refine ⟨xs', h2, ?_, Fr.trans ((Fr.refl (fun k => k = g) w).setCell (p := ⟨g, o, none⟩) (fun _ => rfl) v) h4 (fun i hi _ => hi)⟩
    have e1 : xs'.take o = (xs'.take (o + 1)).take o := by rw [List.take_take, Nat.min_eq_left (by omega)]
    rw [e1, h3, List.take_take, Nat.min_eq_left (by omega), List.take_set_of_le (by omega)]

theorem ownsRow_cut {w : World} {base n g cap s i : Nat} {e : TypeId} {xs : List Value} (h : w.ownsRow base e s (.slice (some ⟨g, 0, none⟩) n cap) n xs) (hi : i ≤ n) : w.ownsRow base e s (.slice (some ⟨g, 0, none⟩) i cap) i (xs.take (i * s)) := by
  have hm : i * s ≤ n * s := Nat.mul_le_mul_right s hi
  rcases h.2 with ⟨h0, _⟩ | ⟨g', c', cur, e0, hb, hh, h1, h2, h3, h4⟩
  · cases h0
  · injection e0 with e1 _ e2
    injection e1 with e1
    injection e1 with e1 _ _
    subst e1 e2
    refine ⟨by rw [List.length_take, h.1]; omega, .inr ⟨g, cap, cur, rfl, hb, hh, by omega, h2, h3, ?_⟩⟩
    rw [← h4, List.take_take, Nat.min_eq_left hm]

theorem rowOf_set2 {α : Type} (f : α → List Value) (hf : ∀ x, (f x).length = 2) (l : List α) (k : Nat) (x : α) (a b : Value) (hx : f x = [a, b]) (hk : k < l.length) :
    ((rowOf f l).set (k * 2) a).set (k * 2 + 1) b = rowOf f (l.set k x) := by
  induction l generalizing k with
  | nil => simp at hk
  | cons y l ih =>
    cases k with
    | zero =>
      have hy := hf y
      match hfy : f y, hy with
      | [p, q], _ => simp [rowOf, hfy, hx]
    | succ k =>
      have h1 : rowOf f (y :: l) = f y ++ rowOf f l := by simp [rowOf]
      have h2 : rowOf f ((y :: l).set (k + 1) x) = f y ++ rowOf f (l.set k x) := by simp [rowOf]
      rw [h1, h2, ← ih k (by simpa using hk)]
      have hl := hf y
      rw [List.set_append_right _ _ (by omega), List.set_append_right _ _ (by omega), hl,
        show (k + 1) * 2 - 2 = k * 2 by omega, show (k + 1) * 2 + 1 - 2 = k * 2 + 1 by omega]

theorem rowOf_take2 {α : Type} (f : α → List Value) (hf : ∀ x, (f x).length = 2) (l : List α) (k : Nat) : (rowOf f l).take (k * 2) = rowOf f (l.take k) := by
  induction l generalizing k with
  | nil => simp [rowOf]
  | cons y l ih =>
    cases k with
    | zero => simp [rowOf]
    | succ k =>
      have h1 : rowOf f (y :: l) = f y ++ rowOf f l := by simp [rowOf]
      have h2 : rowOf f ((y :: l).take (k + 1)) = f y ++ rowOf f (l.take k) := by simp [rowOf]
      have hl := hf y
      rw [h1, h2, ← ih k, List.take_append, List.take_of_length_le (by omega), hl, show (k + 1) * 2 - 2 = k * 2 by omega]

/-- As the deleting goes on: R stands there; i are kept of the first j. -/
structure Kept (go : Int × Int → Bool) (ws : List (Int × Int)) (i j : Nat) (R : List (Int × Int)) : Prop where
  len : R.length = ws.length
  low : R.take i = (ws.take j).filter (fun x => !go x)
  high : R.drop j = ws.drop j
  le : i < j
  lt : j ≤ ws.length
section
variable {go : Int × Int → Bool} {ws R : List (Int × Int)} {i j : Nat}
theorem Kept.at (h : Kept go ws i j R) : R.getD j default = ws.getD j default := by
  have h1 := congrArg (fun l => l[0]?) h.high
  simp only [List.getElem?_drop, Nat.add_zero] at h1
  rw [List.getD, List.getD, h1]
theorem take_next (hj : j < ws.length) : ws.take (j + 1) = ws.take j ++ [ws.getD j default] := by
  rw [List.take_succ_eq_append_getElem hj]
  simp [hj]
theorem Kept.keep (h : Kept go ws i j R) (hj : j < ws.length) (hg : go (ws.getD j default) = false) : Kept go ws (i + 1) (j + 1) (R.set i (ws.getD j default)) := by
  have hi : i < R.length := by have := h.len; have := h.le; omega
  refine ⟨by rw [List.length_set]; exact h.len, ?_, ?_, by have := h.le; omega, by omega⟩
  · rw [take_next hj, List.filter_append, ← h.low, List.take_succ_eq_append_getElem (by rw [List.length_set]; exact hi), List.take_set_of_le (Nat.le_refl _), List.getElem_set_self]
    congr 1
    simp only [List.filter_cons, hg, List.filter_nil, Bool.not_false, if_true]
  · rw [List.drop_set_of_lt (by have := h.le; omega)]
    have e := congrArg (fun l => l.drop 1) h.high
    simp only [List.drop_drop] at e
    exact e
theorem Kept.skip (h : Kept go ws i j R) (hj : j < ws.length) (hg : go (ws.getD j default) = true) : Kept go ws i (j + 1) R := by
  refine ⟨h.len, ?_, ?_, by have := h.le; omega, by omega⟩
  · rw [take_next hj, List.filter_append, h.low]
    simp only [List.filter_cons, hg, List.filter_nil, Bool.not_true, Bool.false_eq_true, if_false, List.append_nil]
  · have e := congrArg (fun l => l.drop 1) h.high
    simp only [List.drop_drop] at e
    exact e
theorem filter_none (ws : List (Int × Int)) (k : Nat) (hk : k ≤ ws.length) (h : ∀ j, j < k → go (ws.getD j default) = false) : (ws.take k).filter go = [] ∧ (ws.take k).filter (fun x => !go x) = ws.take k := by
  have hall : ∀ x ∈ ws.take k, go x = false := fun x hx => by
    obtain ⟨j, hj, rfl⟩ := List.getElem_of_mem hx
    rw [List.length_take] at hj
    have := h j (by omega)
    rw [List.getElem_take]
    simpa [show j < ws.length by omega] using this
  exact ⟨List.filter_eq_nil_iff.2 (fun x hx => by simp [hall x hx]), List.filter_eq_self.2 (fun x hx => by simp [hall x hx])⟩
theorem Kept.start {k : Nat} (hk : k < ws.length) (h : ∀ j, j < k → go (ws.getD j default) = false) (hg : go (ws.getD k default) = true) : Kept go ws k (k + 1) ws := by
  refine ⟨rfl, ?_, rfl, by omega, by omega⟩
  rw [take_next hk, List.filter_append, (filter_none ws k (by omega) h).2]
  simp only [List.filter_cons, hg, List.filter_nil, Bool.not_true, Bool.false_eq_true, if_false, List.append_nil]
end

section
variable {Bp Bb Bf fb base : Nat} {pinned : Bool} {border : Int} {v0 : Value} {l0 : List Int} {w0 wr : World}
theorem not_cur {k : Nat} {cur : Array Value} {fz : Nat × Nat} (hb : wr.heap[k]? = some (.cells cur 81 fz)) (hf : k ≠ fb) : ¬ curF fb base wr k := by
  rintro (e | ⟨v, l, hI, hv⟩)
  · exact hf e
  · obtain ⟨c2, e2, _⟩ := row_block hI.1.2.2.1 hv
    rw [hb] at e2
    injection e2 with e2
    injection e2 with _ e2 _
    cases e2
theorem row_not_cur {g : Nat} {vw : Value} {n : Nat} {xs : List Value} (ho : wr.ownsRow base 81 2 vw n xs) (hg : vw.ownBlock = some g) (hf : g ≠ fb) : ¬ curF fb base wr g := by
  obtain ⟨c1, e1, _⟩ := row_block ho hg
  exact not_cur e1 hf

theorem own_eq {g k n cap : Nat} (hk : (Value.slice (some ⟨g, 0, none⟩) n cap).ownBlock = some k) : k = g := by
  have : g = k := by simpa [Value.ownBlock] using hk
  exact this.symm
/-- What is left behind it. -/
def DelR (fb base : Nat) (v0 : Value) (l0 : List Int) (g : Nat) (w0 : World) (go : Int × Int → Bool) (ws : List (Int × Int)) (u : Value) (w' : World) : Prop :=
  w'.ownsRow base 81 2 u (ws.filter (fun x => !go x)).length (rowOf wtcells (ws.filter (fun x => !go x))) ∧ (∀ k, u.ownBlock = some k → k = g) ∧ PutS fb base v0 l0 (fun k => k = g) w0 (pagesOf (ws.filter go)) w'

set_option maxHeartbeats 4000000 in
set_option maxRecDepth 100000 in
theorem del_rel (g cap : Nat) (ws : List (Int × Int)) (ho : w0.ownsRow base 81 2 (.slice (some ⟨g, 0, none⟩) ws.length cap) ws.length (rowOf wtcells ws)) (hgp : ¬ pileF fb v0 g)
    (hE : RelE Bp Bb Bf fb pinned border w0) (h1 : ¬ (pileF fb v0 Bp ∨ Bp = g)) (h2 : ¬ (pileF fb v0 Bb ∨ Bb = g)) (h3 : ¬ (pileF fb v0 Bf ∨ Bf = g)) (hI : PileI fb base v0 l0 w0) (hn : l0.length + ws.length < 900000) :
    Calls Tryz.prog 46 #[.slice (some ⟨g, 0, none⟩) ws.length cap, clV Bp Bb Bf] w0 fun e w' => ∃ u, e = .returned u ∧ DelR fb base v0 l0 g w0 (goes pinned border) ws u w' := by
  have hgf : g ≠ fb := fun e => hgp (.inl e)
  have hgl : g < w0.heap.size := by
    obtain ⟨_, hb, _⟩ := row_block (g := g) ho rfl
    exact (Array.getElem?_eq_some_iff.1 hb).1
  have HIX := Lib.hid (idx_rel g cap (some ⟨g, 0, none⟩) ws (fun _ => ⟨rfl, hgl, hgp⟩) (fun k hk => row2_cell ho k hk) hE (fun h => h1 (.inl h)) (fun h => h2 (.inl h)) (fun h => h3 (.inl h)) hI hn)
  have HRC := Lib.hid (fun x wr j (hS : PutS fb base v0 l0 (fun k => k = g) w0 (pagesOf ((ws.take j).filter (goes pinned border))) wr) => by
    obtain ⟨v, l, hI, hp, hF0, hL, hO⟩ := id hS
    refine rel_call x (hE.keep hF0 h1 h2 h3) hS ?_
    have e1 : (pagesOf ((ws.take j).filter (goes pinned border))).length ≤ ws.length := by
      unfold pagesOf
      rw [List.length_map]
      exact Nat.le_trans (List.length_filter_le _ _) (by rw [List.length_take]; omega)
    omega)
  have HO := Lib.hid ho
  have HGF := Lib.hid hgf
  have hbig : ws.length ≤ 1000000 := by omega
  have HGP := Lib.hid hgp
  clear ho hE h1 h2 h3 hI hgp hgf
  generalize clV Bp Bb Bf = cl at *
  go_enter Tryz.func46, Tryz.ntmps46
  go_wp2_with fail
  refine HIX.out.mono ?_
  rintro e w1 ⟨r, rfl, hr⟩
  have HROW : Hid (∀ ps W, PutS fb base v0 l0 (fun _ => False) w0 ps W → W.ownsRow base 81 2 (.slice (some ⟨g, 0, none⟩) ws.length cap) ws.length (rowOf wtcells ws)) := Lib.hid (fun ps W hS => by
    obtain ⟨v, l, hI, hp, hF0, hL, hO⟩ := hS
    refine hF0.owns HO.out (fun k hk h => ?_)
    have : g = k := by simpa [Value.ownBlock] using hk
    subst this
    exact h.elim HGP.out id)
  rcases hr with ⟨rfl, hno, hS⟩ | ⟨k, hk, rfl, hno, hyes, hS⟩
  · have HFIN : Hid (DelR fb base v0 l0 g w0 (goes pinned border) ws (.slice (some ⟨g, 0, none⟩) ws.length cap) w1) := Lib.hid (by
      have e := filter_none (go := goes pinned border) ws ws.length (Nat.le_refl _) hno
      rw [List.take_of_length_le (Nat.le_refl _)] at e
      refine ⟨by rw [e.2]; exact HROW.out _ _ hS, fun k hk => ?_, by rw [e.1]; exact hS.mono (fun _ h => h.elim)⟩
      have : g = k := by simpa [Value.ownBlock] using hk
      exact this.symm)
    clear hno hS HROW
    go_wp2
    go_ret
    exact ⟨_, rfl, HFIN.out⟩
  · have HK0 := Lib.hid (Kept.start hk hno hyes)
    have HR0 := Lib.hid (HROW.out _ _ hS)
    have HS0 : Hid (PutS fb base v0 l0 (fun k => k = g) w0 (pagesOf ((ws.take (k + 1)).filter (goes pinned border))) w1) := Lib.hid (by
      rw [take_next hk, List.filter_append, (filter_none ws k (by omega) hno).1]
      simp only [List.filter_cons, hyes, List.filter_nil, if_true, List.nil_append, pagesOf, List.map_cons, List.map_nil]
      exact hS.mono (fun _ h => h.elim))
    clear hno hyes hS HROW HIX HO
    go_wp2
    go_loopw [5, 6, 7] (fun iv jv _ wr => ∃ (i j : Nat) (R : List (Int × Int)), iv = .int .i64 i ∧ jv = .int .i64 j ∧ j ≤ ws.length ∧ i < j ∧ Hid (Kept (goes pinned border) ws i j R) ∧ Hid (wr.ownsRow base 81 2 (.slice (some ⟨g, 0, none⟩) ws.length cap) ws.length (rowOf wtcells R)) ∧ Hid (PutS fb base v0 l0 (fun k => k = g) w0 (pagesOf ((ws.take j).filter (goes pinned border))) wr)) (fun _ jv _ _ => ws.length - (intOf jv).toNat)
    case atStart => exact ⟨k, k + 1, ws, rfl, by go_num, by omega, by omega, HK0, HR0, HS0⟩
    case round =>
      clear HK0 HR0 HS0 hk
      obtain ⟨i, j, R, rfl, rfl, hj, hij, HK, HR, HS⟩ := hrel
      by_cases hlt : j < ws.length
      · have hRl := HK.out.len
        obtain ⟨x0, x1⟩ := row2_cell (ws := R) (by rw [hRl]; exact HR.out) j (by omega)
        rw [HK.out.at] at x0 x1
        have hal : PutS fb base v0 l0 (fun k => k = g) w0 (pagesOf ((ws.take j).filter (goes pinned border))) (wr.alloc (.cells #[.int .i64 (ws.getD j default).1, .int .i64 (ws.getD j default).2] 81)) := HS.out.below ((Below.refl _ wr).alloc (Nat.le_refl _) _)
        have HV := Lib.hid (HRC.out (ws.getD j default) _ j hal)
        have HRA : Hid ((wr.alloc (.cells #[.int .i64 (ws.getD j default).1, .int .i64 (ws.getD j default).2] 81)).ownsRow base 81 2 (.slice (some ⟨g, 0, none⟩) ws.length cap) ws.length (rowOf wtcells R)) := Lib.hid (HR.out.alloc _)
        have HKK : Hid (goes pinned border (ws.getD j default) = false → Kept (goes pinned border) ws (i + 1) (j + 1) (R.set i (ws.getD j default))) := Lib.hid (fun h => HK.out.keep hlt h)
        have HKS : Hid (goes pinned border (ws.getD j default) = true → Kept (goes pinned border) ws i (j + 1) R) := Lib.hid (fun h => HK.out.skip hlt h)
        have HPG : Hid (pagesOf ((ws.take j).filter (goes pinned border)) ++ pagesOf ([ws.getD j default].filter (goes pinned border)) = pagesOf ((ws.take (j + 1)).filter (goes pinned border))) := Lib.hid (by
          rw [take_next hlt, List.filter_append]
          simp [pagesOf])
        have hfl : fb < wr.heap.size := by
          obtain ⟨v, l, hI, _⟩ := HS.out
          exact cell_lt hI.1.1
        have hgl2 : g < wr.heap.size := by
          obtain ⟨_, hb, _⟩ := row_block (g := g) HR.out rfl
          exact (Array.getElem?_eq_some_iff.1 hb).1
        clear hal HS HR
        generalize ws.getD j default = x at *
        obtain ⟨tx, px⟩ := x
        cases hg : goes pinned border (tx, px) with
        | false =>
          rw [HPG.out, hg] at HV
          have HK2 := Lib.hid (HKK.out hg)
          have hRi : i < R.length := by omega
          clear hg HKK HKS HPG HK
          go_wp2_with (first
            | ((with_reducible refine wpV1 HV.out ?_ ?_ ?_ ?_); rfl; rfl; rfl; rintro u w3 ⟨rfl, hS3, hF3⟩
               have hn1 : ¬ curF fb base (wr.alloc (.cells #[.int .i64 tx, .int .i64 px] 81)) wr.heap.size := not_cur (heap_alloc_new wr _) (by omega)
               have hn2 : ¬ curF fb base (wr.alloc (.cells #[.int .i64 tx, .int .i64 px] 81)) g := row_not_cur HRA.out rfl HGF.out
               have ho3 := hF3.owns HRA.out (fun k hk h => hn2 (own_eq hk ▸ h))
               have c0 : w3.cell? ⟨wr.heap.size, 0, none⟩ = some (.int .i64 tx) := (hF3.cell (p := ⟨wr.heap.size, 0, none⟩) (by simp) hn1).trans (by go_simp)
               have c1 : w3.cell? ⟨wr.heap.size, 1, none⟩ = some (.int .i64 px) := (hF3.cell (p := ⟨wr.heap.size, 1, none⟩) (by simp) hn1).trans (by go_simp)
               obtain ⟨y0, y1⟩ := row2_cell (ws := R) (by rw [hRl]; exact ho3) i hRi
               have f0 := ho3.frozenAt (i * 2)
               have f1 := ho3.frozenAt (i * 2 + 1)
               have HO3 := Lib.hid ho3
               have HS3 := Lib.hid hS3
               clear hS3 hF3 hn1 hn2 ho3))
          have hst := (HO3.out.stored (i * 2) (.int .i64 tx)).1.stored (i * 2 + 1) (.int .i64 px)
          have hFS : Fr (fun k => k = g) w3 ((w3.setCell ⟨g, i * 2, none⟩ (.int .i64 tx)).setCell ⟨g, i * 2 + 1, none⟩ (.int .i64 px)) := ((Fr.refl (fun k => k = g) w3).setCell (p := ⟨g, i * 2, none⟩) (fun _ => rfl) _).setCell (p := ⟨g, i * 2 + 1, none⟩) (fun _ => rfl) _
          refine ⟨⟨i + 1, by omega, j + 1, by omega, by omega, by omega, R.set i (tx, px), HK2, Lib.hid ?_, Lib.hid (HS3.out.still hFS (fun k _ hk => ⟨hk, by rw [show k = g from hk]; exact row_not_cur HO3.out rfl HGF.out⟩))⟩, by simp [intOf]; omega⟩
          have e9 := hst.1
          rw [rowOf_set2 wtcells wtcells_length R i (tx, px) _ _ rfl hRi] at e9
          exact e9
        | true =>
          rw [HPG.out, hg] at HV
          have HK2 := Lib.hid (HKS.out hg)
          clear hg HKK HKS HPG HK
          go_wp2_with (first
            | ((with_reducible refine wpV1 HV.out ?_ ?_ ?_ ?_); rfl; rfl; rfl; rintro u w3 ⟨rfl, hS3, hF3⟩
               have hn1 : ¬ curF fb base (wr.alloc (.cells #[.int .i64 tx, .int .i64 px] 81)) wr.heap.size := not_cur (heap_alloc_new wr _) (by omega)
               have hn2 : ¬ curF fb base (wr.alloc (.cells #[.int .i64 tx, .int .i64 px] 81)) g := row_not_cur HRA.out rfl HGF.out
               have ho3 := hF3.owns HRA.out (fun k hk h => hn2 (own_eq hk ▸ h))
               have HO3 := Lib.hid ho3
               have HS3 := Lib.hid hS3
               clear hS3 hF3 hn1 hn2 ho3))
          refine ⟨⟨i, rfl, j + 1, by omega, by omega, by omega, R, HK2, HO3, HS3⟩, by simp [intOf]; omega⟩
      · obtain rfl : j = ws.length := by omega
        have hRl := HK.out.len
        have hcl := run_clear2 wr 0 g (i * 2) (ws.length - i) (cap - i) (by omega) (fun j hj => by
          have hk : (i * 2 + j) / 2 < R.length := by omega
          obtain ⟨y0, y1⟩ := row2_cell (ws := R) (by rw [hRl]; exact HR.out) ((i * 2 + j) / 2) hk
          rcases Nat.mod_two_eq_zero_or_one (i * 2 + j) with h | h
          · rw [show i * 2 + j = (i * 2 + j) / 2 * 2 by omega, y0]; rfl
          · rw [show i * 2 + j = (i * 2 + j) / 2 * 2 + 1 by omega, y1]; rfl) (fun j _ => HR.out.frozenAt _)
        have hcp : ws.length ≤ cap := by
          obtain ⟨_, cp, hv, _, _, hcp⟩ := owns_len HR.out (by omega)
          injection hv with _ _ hv
          subst hv
          exact hcp
        have hcap : i ≤ cap := by omega
        have hcne : ¬ cap = i := by omega
        have HFIN : Hid (DelR fb base v0 l0 g w0 (goes pinned border) ws (.slice (some ⟨g, 0, none⟩) i cap) (wr.setCells g (i * 2) (List.replicate ((ws.length - i) * 2) (.int .i64 0)))) := Lib.hid (by
          obtain ⟨xs', e1, e2, e3⟩ := setCells_row (List.replicate ((ws.length - i) * 2) (Value.int .i64 0)) (i * 2) wr _ HR.out
          have e4 := ownsRow_cut e1 (show i ≤ ws.length by omega)
          have elow := HK.out.low
          rw [List.take_of_length_le (Nat.le_refl ws.length)] at elow
          rw [e2, rowOf_take2 wtcells wtcells_length, elow] at e4
          have elen : (ws.filter (fun x => !goes pinned border x)).length = i := by rw [← elow, List.length_take]; omega
          refine ⟨by rw [elen]; exact e4, fun k hk => own_eq hk, ?_⟩
          have hs := HS.out.still e3 (fun k _ hk => ⟨hk, by rw [show k = g from hk]; exact row_not_cur HR.out rfl HGF.out⟩)
          rw [List.take_of_length_le (Nat.le_refl ws.length)] at hs
          exact hs)
        clear HR HS HK HRC
        go_wp2
        go_ret
        exact ⟨_, rfl, HFIN.out⟩
end
end Go.Proofs.YtedcpckocedcoaaGreat

/- free's Free: Release. -/
namespace Go.Proofs.YtedcpckocedcoaaGreat
open Go.RowKit

section
variable {Bp Bb Bf fb base : Nat} {pinned : Bool} {border : Int} {v0 : Value} {l0 : List Int} {w0 wr : World}

set_option maxRecDepth 100000 in
theorem del_nil (hE : RelE Bp Bb Bf fb pinned border w0) (h1 : ¬ pileF fb v0 Bp) (h2 : ¬ pileF fb v0 Bb) (h3 : ¬ pileF fb v0 Bf) (hI : PileI fb base v0 l0 w0) (hn : l0.length < 900000) :
    Calls Tryz.prog 46 #[.slice none 0 0, clV Bp Bb Bf] w0 fun e w' => e = .returned (.slice none 0 0) ∧ PutS fb base v0 l0 (fun _ => False) w0 [] w' := by
  have HIX := Lib.hid (idx_rel 0 0 none [] (fun h => absurd h (Nat.lt_irrefl 0)) (fun k hk => absurd hk (Nat.not_lt_zero k)) hE h1 h2 h3 hI (by simpa using hn))
  clear hE h1 h2 h3 hI hn
  generalize clV Bp Bb Bf = cl at *
  go_enter Tryz.func46, Tryz.ntmps46
  go_wp2_with fail
  refine HIX.out.mono ?_
  rintro e w1 ⟨r, rfl, hr⟩
  rcases hr with ⟨rfl, hno, hS⟩ | ⟨k, hk, rfl, hno, hyes, hS⟩
  · have HS := Lib.hid hS
    clear hS hno
    go_wp2
    go_ret
    exact ⟨rfl, HS.out⟩
  · exact absurd hk (Nat.not_lt_zero k)

/-- What the deleting leaves. -/
def DelA (fb base : Nat) (v0 vw : Value) (l0 : List Int) (w0 : World) (go : Int × Int → Bool) (ws : List (Int × Int)) (u : Value) (w' : World) : Prop :=
  w'.ownsRow base 81 2 u (ws.filter (fun x => !go x)).length (rowOf wtcells (ws.filter (fun x => !go x))) ∧ (∀ k, u.ownBlock = some k → vw.ownBlock = some k) ∧ PutS fb base v0 l0 (fun k => vw.ownBlock = some k) w0 (pagesOf (ws.filter go)) w'

theorem del_any {vw : Value} {ws : List (Int × Int)} (ho : w0.ownsRow base 81 2 vw ws.length (rowOf wtcells ws)) (hgp : ∀ g, vw.ownBlock = some g → ¬ pileF fb v0 g)
    (hE : RelE Bp Bb Bf fb pinned border w0) (h1 : ¬ (pileF fb v0 Bp ∨ vw.ownBlock = some Bp)) (h2 : ¬ (pileF fb v0 Bb ∨ vw.ownBlock = some Bb)) (h3 : ¬ (pileF fb v0 Bf ∨ vw.ownBlock = some Bf)) (hI : PileI fb base v0 l0 w0) (hn : l0.length + ws.length < 900000) :
    Calls Tryz.prog 46 #[vw, clV Bp Bb Bf] w0 fun e w' => ∃ u, e = .returned u ∧ DelA fb base v0 vw l0 w0 (goes pinned border) ws u w' := by
  rcases ho.2 with ⟨rfl, h0⟩ | ⟨g, cap, cur, rfl, hb, hh, _⟩
  · have hws : ws = [] := List.eq_nil_of_length_eq_zero h0
    subst hws
    refine (del_nil hE (fun h => h1 (.inl h)) (fun h => h2 (.inl h)) (fun h => h3 (.inl h)) hI (by simpa using hn)).mono ?_
    rintro e w' ⟨he, hS⟩
    exact ⟨_, he, World.ownsRow_nil _ _ _ _, (fun k hk => by cases hk), hS.mono (fun _ h => h.elim)⟩
  · have hown : ∀ k, (Value.slice (some ⟨g, 0, none⟩) ws.length cap).ownBlock = some k ↔ k = g := fun k => ⟨own_eq, fun h => by subst h; rfl⟩
    have hx : ∀ B, ¬ (pileF fb v0 B ∨ (Value.slice (some ⟨g, 0, none⟩) ws.length cap).ownBlock = some B) → ¬ (pileF fb v0 B ∨ B = g) := fun B hB h => hB (h.imp id (hown B).2)
    refine (del_rel g cap ws ho (hgp g rfl) hE (hx _ h1) (hx _ h2) (hx _ h3) hI hn).mono ?_
    rintro e w' ⟨u, he, h4, h5, h6⟩
    exact ⟨u, he, h4, fun k hk => (hown k).2 (h5 k hk), h6.mono (fun k hk => (hown k).2 hk)⟩
end

/-- How far the pins reach. -/
def PinMin (D : DU) (pinned : Bool) (border : Int) : Prop := (pinned = false ∧ intKeys D = []) ∨ (pinned = true ∧ border ∈ intKeys D ∧ ∀ x ∈ intKeys D, border ≤ x)

section
variable {fb base : Nat} {v vw vp : Value} {l : List Int} {ws : List (Int × Int)} {np : Nat} {D : DU} {F : Nat → Prop} {w w' : World}

theorem first_any {pb bs : Nat} {pv : Value} {pl ss : List Int} (h : PileI pb bs pv pl w) (hp1 : pl.Perm ss) (hp2 : ss.Perm (intKeys D)) : ∃ pinned border, PinMin D pinned border ∧ Calls Tryz.prog 45 #[.pointer (some ⟨pb, 0, none⟩)] w fun e w' => e = .returned (.tuple #[.int .i64 border, .bool pinned]) ∧ w = w' := by
  have hp := hp1.trans hp2
  cases pl with
  | nil => exact ⟨false, 0, .inl ⟨rfl, List.Perm.nil_eq hp |>.symm⟩, pile_first_none pb bs pv w h⟩
  | cons a t =>
    refine ⟨true, HL.el (a :: t) 0, .inr ⟨rfl, hp.mem_iff.1 (HL.el_mem _ _ (by simp)), fun x hx => ?_⟩, pile_first_some pb bs pv _ w h (by simp)⟩
    have e := HL.IsHeap.least_mem nlt_ord h.2 x (hp.mem_iff.2 hx)
    unfold nlt at e
    simpa using e

/-- What Release leaves. -/
def RelR (fb base : Nat) (l : List Int) (ws : List (Int × Int)) (np : Nat) (D : DU) (F : Nat → Prop) (w : World) (r : Int) (w' : World) : Prop :=
  ∃ pinned border l' F', PinMin D pinned border ∧ r = (ws.filter (goes pinned border)).length ∧ Fe fb base l' (ws.filter (fun x => !goes pinned border x)) np D F' w' ∧ l'.Perm (l ++ pagesOf (ws.filter (goes pinned border))) ∧ Step F F' w w'

theorem rel_fin {go : Int × Int → Bool} {u : Value} {w0 w5 : World} (h : FrI fb base v vw vp l ws np D w0) (hA : DelA fb base v vw l w0 go ws u w5) :
    ∃ l' F', Fe fb base l' (ws.filter (fun x => !go x)) np D F' (w5.setCell ⟨fb, 1, none⟩ u) ∧ l'.Perm (l ++ pagesOf (ws.filter go)) ∧ Step (freeF fb v vw vp) F' w0 (w5.setCell ⟨fb, 1, none⟩ u) := by
  obtain ⟨hrow, hown, v', l', hI, hp, hF, hL, hO⟩ := hA
  have hFs : Fr (fun k => k = fb) w5 (w5.setCell ⟨fb, 1, none⟩ u) := (Fr.refl (fun k => k = fb) w5).setCell (p := ⟨fb, 1, none⟩) (fun _ => rfl) _
  have hOs := Others.set fb 1 w5 u
  have hFF : Fr (freeF fb v vw vp) w0 (w5.setCell ⟨fb, 1, none⟩ u) := Fr.trans (hF.mono (fun i _ hi => by
    rcases hi with (hi | hi) | hi
    · exact .inl hi
    · exact .inr (.inl hi)
    · exact .inr (.inr (.inl hi)))) hFs (fun i hi _ => .inl hi)
  have hFP : Fr (fun k => k = fb ∨ v.ownBlock = some k ∨ vw.ownBlock = some k) w0 (w5.setCell ⟨fb, 1, none⟩ u) := Fr.trans (hF.mono (fun i _ hi => by
    rcases hi with (hi | hi) | hi
    · exact .inl hi
    · exact .inr (.inl hi)
    · exact .inr (.inr hi))) hFs (fun i hi _ => .inl hi)
  refine ⟨l', _, ⟨v', u, vp, ⟨⟨⟨(hOs 0 (by omega)).1.trans hI.1.1, (hOs 0 (by omega)).2.trans hI.1.2.1, hFs.owns hI.1.2.2.1 (fun g hg e => hI.1.2.2.2.1 (by rw [hg, show g = fb from e])), hI.1.2.2.2.1, hI.1.2.2.2.2.1, Nat.le_trans hI.1.2.2.2.2.2 hFs.size⟩, hI.2⟩, cell_set_same _ _ _ _ ((hO 1 (by omega)).1.trans h.c1), (frozen_set _ _ _ _).trans ((hO 1 (by omega)).2.trans h.f1), hFs.owns hrow (fun g hg e => h.n1 (by rw [hown g hg, show g = fb from e])), fun e => h.n1 (hown fb e), (hOs 2 (by omega)).1.trans ((hO 2 (by omega)).1.trans h.c2), (hOs 2 (by omega)).2.trans ((hO 2 (by omega)).2.trans h.f2), h.pins.keep hFP (fun k hk hk2 => h.apart2 hk2 hk), Nat.le_trans (List.length_filter_le _ _) h.few, h.fbb⟩, rfl⟩, hp, hFF, fun k hk => ?_⟩
  rcases hk with hk | hk | hk | hk
  · exact .inl (.inl hk)
  · exact (hL k hk).imp (fun e => .inr (.inl e)) id
  · exact .inl (.inr (.inr (.inl (hown k hk))))
  · exact .inl (.inr (.inr (.inr hk)))

theorem filter_count (go : Int × Int → Bool) (ws : List (Int × Int)) : (ws.filter go).length + (ws.filter (fun x => !go x)).length = ws.length := by
  induction ws with
  | nil => rfl
  | cons x ws ih =>
    cases h : go x <;> simp [h] <;> omega

set_option maxHeartbeats 4000000 in
set_option maxRecDepth 100000 in
theorem fe_release (h : Fe fb base l ws np D F w) (hnp : np ≤ 100000) (hn : l.length + ws.length < 900000) :
    Calls Tryz.prog 20 #[.pointer (some ⟨fb, 0, none⟩)] w fun e w' => ∃ r, e = .returned (.int .i64 r) ∧ RelR fb base l ws np D F w r w' := by
  obtain ⟨v, vw, vp, h, rfl⟩ := h
  obtain ⟨qw, cw, rfl⟩ := owns_slice h.row
  have hfl : fb < w.heap.size := cell_lt h.c1
  have hc1 := h.c1
  have hc2 := h.c2
  have hb0 : Below w.heap.size w (w.alloc (.cells #[.pointer (some ⟨fb, 0, none⟩)] 26)) := (Below.refl _ w).alloc (Nat.le_refl _) _
  have hx0 : (w.alloc (.cells #[.pointer (some ⟨fb, 0, none⟩)] 26)).cell? ⟨w.heap.size, 0, none⟩ = some (.pointer (some ⟨fb, 0, none⟩)) := by go_simp
  have hz0 : (w.alloc (.cells #[.pointer (some ⟨fb, 0, none⟩)] 26)).heap.size = w.heap.size + 1 := by simp
  have hc2' := (hb0.cell (p := ⟨fb, 2, none⟩) hfl).trans hc2
  obtain ⟨mb, rfl, hcol⟩ := collect_keys (h.pins.keep (Fr.of_all (S := fun _ => False) hb0) (fun _ _ h => h)) (by omega)
  rw [hz0] at hcol
  have HCOL := Lib.hid hcol
  have HH := Lib.hid h
  have HB0 := Lib.hid hb0
  clear h hcol hb0
  go_enter Tryz.func20, Tryz.ntmps20
  go_wp2_with fail
  refine (keys_call mb _).mono ?_
  rintro e w1 ⟨rfl, rfl⟩
  rw [hz0]
  go_wp2_with fail
  refine HCOL.out.mono ?_
  rintro e w2 ⟨sv, ss, rfl, hp, ho, hsl, hb⟩
  have hB2 : Below w.heap.size w w2 := ((HB0.out.alloc HB0.out.size (.cells #[.map mb] 37))).trans (hb.mono (by omega))
  have hx2 : w2.cell? ⟨w.heap.size, 0, none⟩ = some (.pointer (some ⟨fb, 0, none⟩)) := (hb.cell (p := ⟨w.heap.size, 0, none⟩) (by simp)).trans ((World.cell?_of_block (Below.heap_alloc _ _ _ (show w.heap.size < _ by rw [hz0]; omega))).trans hx0)
  have hz2 : w.heap.size + 2 ≤ w2.heap.size := by have := hb.size; simp at this; omega
  obtain ⟨q, c, rfl⟩ := owns_slice ho
  have HN := Lib.hid (pile_new q ss.length c ss w2 (RdI.of_own ho rfl) hsl)
  have HP := Lib.hid hp
  have HB2 := Lib.hid hB2
  clear hb ho hsl hp hB2 HCOL HB0 hx0 hc2'
  go_wp2_with fail
  refine HN.out.mono ?_
  rintro e w3 ⟨pb, pv, pl, rfl, hpb, hpI, hpp, hb3⟩
  have hB3 : Below w.heap.size w w3 := HB2.out.trans (hb3.mono (by omega))
  have hx3 := (hb3.cell (p := ⟨w.heap.size, 0, none⟩) (show w.heap.size < w2.heap.size by omega)).trans hx2
  have hz3 : w.heap.size + 2 ≤ w3.heap.size := Nat.le_trans hz2 hb3.size
  obtain ⟨pinned, border, hpin, hfirst⟩ := first_any hpI hpp HP.out
  have HFI := Lib.hid hfirst
  have HPIN := Lib.hid hpin
  have HB3 := Lib.hid hB3
  clear hb3 hpp hpI hfirst hpin hB3 HN HB2 HP hx2 hz2
  go_wp2_with fail
  refine HFI.out.mono ?_
  rintro e w4 ⟨rfl, rfl⟩
  have hB4 : Below w.heap.size w ((w3.alloc (.cells #[.int .i64 border] 3)).alloc (.cells #[.bool pinned] 4)) := (HB3.out.alloc HB3.out.size _).alloc (by simp; omega) _
  have hx4 : ((w3.alloc (.cells #[.int .i64 border] 3)).alloc (.cells #[.bool pinned] 4)).cell? ⟨w.heap.size, 0, none⟩ = some (.pointer (some ⟨fb, 0, none⟩)) := (((Below.refl w3.heap.size w3).alloc (Nat.le_refl _) _).alloc (by simp) _).cell (p := ⟨w.heap.size, 0, none⟩) (show w.heap.size < w3.heap.size by omega) |>.trans hx3
  have hb4 : ((w3.alloc (.cells #[.int .i64 border] 3)).alloc (.cells #[.bool pinned] 4)).cell? ⟨w3.heap.size, 0, none⟩ = some (.int .i64 border) := by go_simp
  have hp4 : ((w3.alloc (.cells #[.int .i64 border] 3)).alloc (.cells #[.bool pinned] 4)).cell? ⟨w3.heap.size + 1, 0, none⟩ = some (.bool pinned) := by go_simp
  have hz4 : ((w3.alloc (.cells #[.int .i64 border] 3)).alloc (.cells #[.bool pinned] 4)).heap.size = w3.heap.size + 2 := by simp
  have hc4 := (hB4.cell (p := ⟨fb, 1, none⟩) hfl).trans hc1
  have HB4 := Lib.hid hB4
  have HZ3 := Lib.hid hz3
  clear HFI hx3 hB4 HB3 hz3 hc1 hc2 hpb
  go_wp2_with fail
  generalize (w3.alloc (.cells #[.int .i64 border] 3)).alloc (.cells #[.bool pinned] 4) = W4 at *
  have HI4 : Hid (FrI fb base v (.slice qw ws.length cw) (.map mb) l ws np D W4.drew) := Lib.hid (HH.out.keep ((Fr.of_all (S := fun _ => False) HB4.out).drew) (fun _ _ h => h))
  have HLT : Hid (∀ k, freeF fb v (.slice qw ws.length cw) (.map mb) k → k < w.heap.size) := Lib.hid HH.out.lt
  have HDEL := Lib.hid (del_any (Bp := w3.heap.size + 1) (Bb := w3.heap.size) (Bf := w.heap.size) (pinned := pinned) (border := border) (w0 := W4.drew) HI4.out.row (fun g hg h => by
      rcases h with h | h
      · exact HI4.out.n1 (by rw [hg, h])
      · exact HI4.out.apart1 h hg) ⟨hp4, hb4, hx4⟩ (fun h => by have := HLT.out _ (h.elim (fun h => h.imp id .inl) (fun h => .inr (.inr (.inl h)))); have := HZ3.out; omega) (fun h => by have := HLT.out _ (h.elim (fun h => h.imp id .inl) (fun h => .inr (.inr (.inl h)))); have := HZ3.out; omega) (fun h => by have := HLT.out _ (h.elim (fun h => h.imp id .inl) (fun h => .inr (.inr (.inl h)))); omega) HI4.out.pile hn)
  unfold clV at HDEL
  clear hp4 hb4
  have hfb4 : fb < W4.heap.size := by have := HZ3.out; omega
  have hbf4 : w.heap.size < W4.heap.size := by have := HZ3.out; omega
  go_region_with (go_at_call 46; refine HDEL.out.mono ?_; rintro e w5 ⟨u, rfl, hA⟩; obtain ⟨pu, cu, rfl⟩ := owns_slice hA.1; have hx5 : w5.cell? ⟨w.heap.size, 0, none⟩ = some (.pointer (some ⟨fb, 0, none⟩)) := (by obtain ⟨_, _, v', l', hI, hp, hF, hL, hO⟩ := hA; exact (hF.cell (p := ⟨w.heap.size, 0, none⟩) hbf4 (fun h => Nat.lt_irrefl _ (HLT.out _ (h.elim (fun h => h.imp id .inl) (fun h => .inr (.inr (.inl h))))))).trans hx4); have hc5 : w5.cell? ⟨fb, 1, none⟩ = some (.slice qw ws.length cw) := (by obtain ⟨_, _, v', l', hI, hp, hF, hL, hO⟩ := hA; exact (hO 1 (by omega)).1.trans hc4); have hf5 : w5.frozen? ⟨fb, 1, none⟩ = false := (by obtain ⟨_, _, v', l', hI, hp, hF, hL, hO⟩ := hA; exact (hO 1 (by omega)).2.trans HI4.out.f1); have HFIN : Hid (RelR fb base l ws np D (freeF fb v (.slice qw ws.length cw) (.map mb)) w ((ws.length : Int) - ((ws.filter (fun x => !goes pinned border x)).length : Int)) (w5.setCell ⟨fb, 1, none⟩ (.slice pu (ws.filter (fun x => !goes pinned border x)).length cu))) := (by obtain ⟨l', F', g1, g2, g3⟩ := rel_fin HI4.out hA; refine Lib.hid ⟨pinned, border, l', F', HPIN.out, ?_, g1, g2, ?_⟩; (have := filter_count (goes pinned border) ws; omega); exact Step.trans (Step.trans (Step.still HB4.out) ⟨(Fr.refl _ W4).drew, fun k hk => .inl hk⟩) g3); have hx6 : (w5.setCell ⟨fb, 1, none⟩ (.slice pu (ws.filter (fun x => !goes pinned border x)).length cu)).cell? ⟨w.heap.size, 0, none⟩ = some (.pointer (some ⟨fb, 0, none⟩)) := (World.cell?_setCell_other _ _ _ _ (by intro e9; injection e9 with e9 _ _; omega)).trans hx5; have hc6 : (w5.setCell ⟨fb, 1, none⟩ (.slice pu (ws.filter (fun x => !goes pinned border x)).length cu)).cell? ⟨fb, 1, none⟩ = some (.slice pu (ws.filter (fun x => !goes pinned border x)).length cu) := cell_set_same _ _ _ _ hc5; clear hA)
  all_goals
    clear hx5 hc5 hf5 hx4 hc4
    have hmn : (ws.filter (fun x => !goes pinned border x)).length ≤ ws.length := List.length_filter_le _ _
    generalize (ws.filter (fun x => !goes pinned border x)).length = m at *
    go_wp2
    go_ret
    exact ⟨_, rfl, HFIN.out⟩
end
end Go.Proofs.YtedcpckocedcoaaGreat

/- arboretumlaw6.alive is true. -/
namespace Go.Proofs.YtedcpckocedcoaaGreat
open Go.RowKit

theorem least_of {l m : List Int} {a b : Int} (hp : l.Perm m) (ha : a ∈ l) (hmin : ∀ x ∈ l, a ≤ x) (hb : b ∈ m) (hbm : ∀ x ∈ m, b ≤ x) : a = b :=
  Int.le_antisymm (hmin b (hp.mem_iff.2 hb)) (hbm a (hp.mem_iff.1 ha))
theorem litI_inj {a b : Int} (h : (litI a : DU) = litI b) : a = b := by
  injection h with h
  injection h with _ h

def D6 : DU := DataW.put (.map []) (.int .i64 6) (litI 1)
theorem pin6 {pinned : Bool} {border : Int} (h : PinMin D6 pinned border) : pinned = true ∧ border = 6 := by
  have hk : intKeys D6 = [6] := rfl
  rcases h with ⟨_, h⟩ | ⟨h1, h2, _⟩
  · rw [hk] at h; cases h
  · rw [hk] at h2
    exact ⟨h1, by simpa using h2⟩
def D6d : DU := (D6.put (.int .i64 6) (litI 0)).del (.int .i64 6)
theorem pin6d {pinned : Bool} {border : Int} (h : PinMin D6d pinned border) : pinned = false := by
  have hk : intKeys D6d = [] := rfl
  rcases h with ⟨h, _⟩ | ⟨_, h2, _⟩
  · exact h
  · rw [hk] at h2; cases h2

set_option maxHeartbeats 4000000 in
set_option maxRecDepth 100000 in
theorem falive_true (w : World) : Calls Tryz.prog 5 #[] w fun e w' => e = .returned (.bool true) ∧ Below w.heap.size w w' := by
  have ha0 : Below w.heap.size w (w.alloc (.cells #[.int .i64 9, .int .i64 4] 3)) := (Below.refl _ w).alloc (Nat.le_refl _) _
  have hz0 : (w.alloc (.cells #[.int .i64 9, .int .i64 4] 3)).heap.size = w.heap.size + 1 := by simp
  have HN := fe_new (some ⟨w.heap.size, 0, none⟩) 2 2 [9, 4] _ (rd_new w [9, 4] 3) (by omega)
  have HNW : Hid (Calls Tryz.prog 7 #[.slice (some ⟨w.heap.size, 0, none⟩) 2 2] (w.alloc (.cells #[.int .i64 9, .int .i64 4] 3)) fun e w' => e = .returned (.pointer (some ⟨w.heap.size + 1, 0, none⟩)) ∧ ∃ l F, Fe (w.heap.size + 1) (w.heap.size + 1) l [] 0 (.map []) F w' ∧ l.Perm [9, 4] ∧ Below (w.heap.size + 1) (w.alloc (.cells #[.int .i64 9, .int .i64 4] 3)) w') := Lib.hid (by
    rw [← hz0]; exact HN)
  have HA0 := Lib.hid ha0
  have HZ0 := Lib.hid hz0
  clear HN ha0 hz0
  go_enter Tryz.func5, Tryz.ntmps5
  go_wp2_with fail
  refine HNW.out.mono ?_
  rintro e w1 ⟨rfl, l1, F1, hI1, hp1, hb1⟩
  have HB1 : Hid (Below w.heap.size w w1) := Lib.hid (HA0.out.trans (hb1.mono (by omega)))
  have hz1 : w.heap.size + 1 < w1.heap.size := by
    have := hI1.lt
    obtain ⟨v, vw, vp, h, rfl⟩ := hI1
    exact cell_lt h.c1
  have hal1 := hI1.below ((Below.refl _ w1).alloc (Nat.le_refl _) (.cells #[.int .i64 5] 3))
  have HGV : Hid (Calls Tryz.prog 12 #[.pointer (some ⟨w.heap.size + 1, 0, none⟩), .int .i64 7, .slice (some ⟨w1.heap.size, 0, none⟩) 1 1] (w1.alloc (.cells #[.int .i64 5] 3)) fun e w' => e = .returned (.tuple #[]) ∧ ∃ F', Fe (w.heap.size + 1) (w.heap.size + 1) l1 [(7, 5)] 0 (.map []) F' w' ∧ Step F1 F' (w1.alloc (.cells #[.int .i64 5] 3)) w') := Lib.hid (fe_give 7 (some ⟨w1.heap.size, 0, none⟩) 1 1 [5] hal1 (rd_new w1 [5] 3) (fun b o e _ hF => by
    injection e with e
    injection e with e _ _
    subst e
    exact Nat.lt_irrefl _ (hI1.lt _ hF)) (by simp))
  have HS1 : Hid (∀ F' W, Step F1 F' (w1.alloc (.cells #[.int .i64 5] 3)) W → Step F1 F' w1 W) := Lib.hid (fun F' W h => (Step.still ((Below.refl _ w1).alloc (Nat.le_refl _) _)).trans h)
  have HGE : Hid (∀ k, F1 k → w.heap.size + 1 ≤ k) := Lib.hid hI1.ge
  have HP1 := Lib.hid hp1
  have hll : l1.length = 2 := hp1.length_eq
  clear hI1 hb1 hal1 hp1 HNW
  go_wp2_with fail
  refine HGV.out.mono ?_
  rintro e w2 ⟨rfl, F2, hI2, hS2⟩
  have HPN := Lib.hid (fe_pin 6 (by decide) hI2 (by omega))
  have HS2 := Lib.hid (HS1.out _ _ hS2)
  clear hI2 hS2 HGV HS1
  go_wp2_with fail
  refine HPN.out.mono ?_
  rintro e w3 ⟨rfl, c, F3, hat, hI3, hS3⟩
  obtain rfl : c = 0 := (litI_inj hat).symm
  rw [show wrap64 (0 + 1) = 1 by unfold wrap64; omega] at hI3
  have hI3' : Fe (w.heap.size + 1) (w.heap.size + 1) l1 [(7, 5)] 1 D6 F3 w3 := hI3
  have HRL := Lib.hid (fe_release hI3' (by omega) (by simp; omega))
  have HS3 := Lib.hid (HS2.out.trans hS3)
  clear hat hI3 hI3' hS3 HPN HS2
  go_wp2_with fail
  refine HRL.out.mono ?_
  rintro e w4 ⟨r, rfl, pinned, border, l4, F4, hpm, hr, hI4, hp4, hS4⟩
  obtain ⟨rfl, rfl⟩ := pin6 hpm
  have hg : goes true 6 (7, 5) = false := by decide
  simp only [List.filter_cons, hg, List.filter_nil, Bool.not_false, if_true, Bool.false_eq_true, if_false, List.length_nil] at hr hI4 hp4
  obtain rfl : r = 0 := hr
  have hp4' : l4.Perm [9, 4] := by simpa [pagesOf] using hp4.trans (HP1.out.append_right _)
  have hl4 : 0 < l4.length := by rw [hp4'.length_eq]; simp
  have HTK := Lib.hid (fe_take hI4 hl4)
  have hlm := HL.el_mem l4 0 hl4
  have HLM := Lib.hid hlm
  have HP4 := Lib.hid hp4'
  have HS4 := Lib.hid (HS3.out.trans hS4)
  clear hpm hI4 hp4 hS4 hp4' hlm HRL HS3 hg hl4 HP1 hll
  go_wp2_with fail
  refine HTK.out.mono ?_
  rintro e w5 ⟨rfl, l5, F5, hI5, hp5, hmin, hS5⟩
  have he4 : HL.el l4 0 = 4 := least_of HP4.out HLM.out hmin (by simp) (by simp)
  rw [he4] at hp5
  rw [he4]
  have hp5' : l5.Perm [9] := List.Perm.cons_inv (hp5.trans (HP4.out.trans (List.Perm.swap 4 9 [])))
  have HUN := Lib.hid (fe_unpin_last 6 (by decide) hI5 (by omega) rfl)
  have HP5 := Lib.hid hp5'
  have HS5 := Lib.hid (HS4.out.trans hS5)
  clear hI5 hp5 hmin hS5 hp5' he4 HTK HS4 HLM HP4
  go_wp2_with fail
  refine HUN.out.mono ?_
  rintro e w6 ⟨rfl, F6, hI6, hS6⟩
  have hI6' : Fe (w.heap.size + 1) (w.heap.size + 1) l5 [(7, 5)] 2 D6d F6 w6 := hI6
  have HRL := Lib.hid (fe_release hI6' (by omega) (by rw [HP5.out.length_eq]; simp))
  have HS6 := Lib.hid (HS5.out.trans hS6)
  clear hI6 hI6' hS6 HUN HS5
  go_wp2_with fail
  refine HRL.out.mono ?_
  rintro e w7 ⟨r, rfl, pinned, border, l7, F7, hpm, hr, hI7, hp7, hS7⟩
  obtain rfl := pin6d hpm
  have hg : goes false border (7, 5) = true := rfl
  simp only [List.filter_cons, hg, List.filter_nil, Bool.not_true, if_true, Bool.false_eq_true, if_false, List.length_nil, List.length_cons] at hr hI7 hp7
  obtain rfl : r = 1 := hr
  have hp7' : l7.Perm [5, 9] := (hp7.trans (HP5.out.append_right _)).trans (List.Perm.swap 5 9 [])
  have hs7 : CL.srt l7 = [5, 9] := CL.srt_unique ((CL.srt_perm l7).trans hp7') (CL.srt_sorted l7) (by simp)
  have HLS := Lib.hid (fe_list hI7)
  rw [hs7, hp7'.length_eq] at HLS
  have HBE : Hid (Below w.heap.size w w7) := Lib.hid (HB1.out.trans ((HS6.out.trans hS7).1.below (by omega) (fun k hk => by have := HGE.out k hk; omega)))
  clear hpm hI7 hp7 hS7 hp7' hs7 HRL HS6 hg HP5
  go_wp2_with fail
  refine HLS.out.mono ?_
  rintro e w8 ⟨u, rfl, ho, hb8⟩
  obtain ⟨g, cap, rfl, _, hgl, hcap⟩ := owns_len ho (by simp)
  have c0 : w8.cell? ⟨g, 0, none⟩ = some (.int .i64 5) := by
    have := ho.cells (g := g) rfl 0 _ rfl
    rwa [addr0] at this
  have c1 : w8.cell? ⟨g, 1, none⟩ = some (.int .i64 9) := by
    have := ho.cells (g := g) rfl 1 _ rfl
    rwa [addr0] at this
  have HB8 : Hid (Below w.heap.size w w8) := Lib.hid (HBE.out.trans (hb8.mono HBE.out.size))
  clear ho hb8 HLS HBE
  go_wp2
  go_ret
  exact ⟨rfl, HB8.out⟩
end Go.Proofs.YtedcpckocedcoaaGreat

