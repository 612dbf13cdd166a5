/- arboretumlaw6.FreeTakes: what its loops keep. -/
import Derived.Test.YtedcpckocedcoaaFAlive
import Derived.Test.YtedcpckocedcoaaSame
namespace Go.Proofs.Ytedcpckocedcoaa
open Go.RowKit

/-- What stands behind some rounds of taking. -/
structure TkI (fb : Nat) (zs ts l : List Int) (F : Nat → Prop) (tv : Value) (w wr : World) : Prop where
  fe : Fe fb fb l [] 0 (.map []) F wr
  row : wr.ownsRow w.heap.size 3 1 tv ts.length (rowOf ncells ts)
  off : ∀ g, tv.ownBlock = some g → ¬ F g
  perm : (ts ++ l).Perm zs
  last : ts ≠ [] → ∀ x ∈ l, HL.el ts (ts.length - 1) ≤ x
  bel : Below w.heap.size w wr
  fbb : w.heap.size ≤ fb

/-- .. in the midst of a round: x is taken. -/
structure TkM (fb : Nat) (zs ts : List Int) (x : Int) (l : List Int) (F : Nat → Prop) (tv : Value) (w wr : World) : Prop where
  fe : Fe fb fb l [] 0 (.map []) F wr
  row : wr.ownsRow w.heap.size 3 1 tv ts.length (rowOf ncells ts)
  off : ∀ g, tv.ownBlock = some g → ¬ F g
  perm : (ts ++ x :: l).Perm zs
  least : ∀ y ∈ l, x ≤ y
  bel : Below w.heap.size w wr
  fbb : w.heap.size ≤ fb

theorem step_off {F F' : Nat → Prop} {w w' : World} {tv : Value} {base : Nat} {e : TypeId} {size n : Nat} {xs : List Value} (hS : Step F F' w w') (ho : w.ownsRow base e size tv n xs) (h : ∀ g, tv.ownBlock = some g → ¬ F g) : ∀ g, tv.ownBlock = some g → ¬ F' g := fun g hg hF => by
  have hlt := (ho.lt g hg).2
  rcases hS.2 g hF with h1 | h1
  · exact h g hg h1
  · omega

theorem tk_take {fb : Nat} {zs ts l : List Int} {F : Nat → Prop} {tv : Value} {w wr : World} (h : TkI fb zs ts l F tv w wr) (hl : 0 < l.length) :
    Calls Try.prog 12 #[.pointer (some ⟨fb, 0, none⟩)] wr fun e w' => ∃ x, e = .returned (.tuple #[.int .i64 x, .bool true]) ∧ (ts ≠ [] → HL.el ts (ts.length - 1) ≤ x) ∧ ∃ l' F', TkM fb zs ts x l' F' tv w w' := by
  refine (fe_take h.fe hl).mono ?_
  rintro e w' ⟨rfl, l', F', hI, hp, hmin, hS⟩
  refine ⟨_, rfl, fun ht => h.last ht _ (HL.el_mem l 0 hl), l', F', hI, hS.1.owns h.row (fun g hg => h.off g hg), step_off hS h.row h.off, (hp.append_left ts).trans h.perm, fun y hy => hmin y (hp.mem_iff.1 (List.mem_cons_of_mem _ hy)), h.bel.trans (hS.1.below h.bel.size (fun k hk => Nat.le_trans h.fbb (h.fe.ge k hk))), h.fbb⟩

theorem tk_app {fb : Nat} {zs ts l : List Int} {x : Int} {F : Nat → Prop} {tv : Value} {w wr w3 : World} {X : Obj} {g cap : Nat} (h : TkM fb zs ts x l F tv w wr) (hown : w3.ownsRow w.heap.size 3 1 (.slice (some ⟨g, 0, none⟩) (ts.length + 1) cap) (ts.length + 1) (rowOf ncells ts ++ [.int .i64 x])) (hgr : (wr.alloc X).grownBy w3 tv.ownBlock) (hat : tv.ownBlock = some g ∨ g = wr.heap.size + 1) :
    TkI fb zs (ts ++ [x]) l F (.slice (some ⟨g, 0, none⟩) (ts.length + 1) cap) w w3 := by
  have hF : Fr (fun k => tv.ownBlock = some k) wr w3 := Fr.trans ((Fr.refl (fun k => tv.ownBlock = some k) wr).alloc X) (Fr.of_grown (S := fun k => tv.ownBlock = some k) hgr (fun i _ e => e)) (fun i hi _ => hi)
  have hlen : (ts ++ [x]).length = ts.length + 1 := by simp
  refine ⟨h.fe.keep hF (fun k hk hk2 => h.off k hk2 hk), ?_, fun g' hg' hF' => ?_, by simpa using h.perm, fun _ y hy => ?_, h.bel.trans (hF.below h.bel.size (fun k hk => (h.row.lt k hk).1)), h.fbb⟩
  · rw [hlen, rowOf_append, rowOf_one]
    exact hown
  · have e : g = g' := by simpa [Value.ownBlock] using hg'
    subst e
    rcases hat with e | e
    · exact h.off g e hF'
    · have := h.fe.lt g hF'
      omega
  · have e : HL.el (ts ++ [x]) ((ts ++ [x]).length - 1) = x := by
      rw [hlen]
      unfold HL.el
      simp
    rw [e]
    exact h.least y hy

/-- The numbers that were taken go back, one by one. -/
structure BkI (fb : Nat) (ts : List Int) (m k : Nat) (F : Nat → Prop) (tv : Value) (w wr : World) : Prop where
  fe : ∃ l ws, Fe fb fb l ws 0 (.map []) F wr ∧ l.length + ws.length = m + k ∧ ws.length = k / 2
  row : wr.ownsRow w.heap.size 3 1 tv ts.length (rowOf ncells ts)
  off : ∀ g, tv.ownBlock = some g → ¬ F g
  bel : Below w.heap.size w wr
  fbb : w.heap.size ≤ fb

theorem BkI.below {fb m k : Nat} {ts : List Int} {F : Nat → Prop} {tv : Value} {w wr w3 : World} (h : BkI fb ts m k F tv w wr) (hb : Below wr.heap.size wr w3) : BkI fb ts m k F tv w w3 := by
  obtain ⟨l, ws, hI, h1, h2⟩ := h.fe
  exact ⟨⟨l, ws, hI.below hb, h1, h2⟩, (Fr.of_all (S := fun _ => False) hb).owns h.row (fun _ _ h => h), h.off, h.bel.trans (hb.mono h.bel.size), h.fbb⟩

theorem BkI.step {fb m k : Nat} {ts : List Int} {F F' : Nat → Prop} {tv : Value} {w wr w3 : World} (h : BkI fb ts m k F tv w wr) (hfe : ∃ l ws, Fe fb fb l ws 0 (.map []) F' w3 ∧ l.length + ws.length = m + (k + 1) ∧ ws.length = (k + 1) / 2) (hS : Step F F' wr w3) : BkI fb ts m (k + 1) F' tv w w3 := by
  obtain ⟨l, ws, hI, h1, h2⟩ := h.fe
  exact ⟨hfe, hS.1.owns h.row (fun g hg => h.off g hg), step_off hS h.row h.off, h.bel.trans (hS.1.below h.bel.size (fun k hk => Nat.le_trans h.fbb (hI.ge k hk))), h.fbb⟩

theorem bk_back {fb m k : Nat} {ts : List Int} {F : Nat → Prop} {tv : Value} {w wr : World} (x : Int) (h : BkI fb ts m k F tv w wr) (hm : m + k < 900000) (hk : k % 2 = 0) :
    Calls Try.prog 15 #[.pointer (some ⟨fb, 0, none⟩), .slice (some ⟨wr.heap.size, 0, none⟩) 1 1] (wr.alloc (.cells #[.int .i64 x] 3)) fun e w' => e = .returned (.tuple #[]) ∧ ∃ F', BkI fb ts m (k + 1) F' tv w w' := by
  obtain ⟨l, ws, hI, h1, h2⟩ := h.fe
  have hal := hI.below ((Below.refl _ wr).alloc (Nat.le_refl _) (.cells #[.int .i64 x] 3))
  refine (fe_back (some ⟨wr.heap.size, 0, none⟩) 1 1 [x] hal (rd_new wr [x] 3) (fun b o e _ hF => by
    injection e with e
    injection e with e _ _
    subst e
    exact Nat.lt_irrefl _ (hI.lt _ hF)) (by omega)).mono ?_
  rintro e w' ⟨he, l', F', hI', hp, hS⟩
  have hl : l'.length = l.length + 1 := by rw [hp.length_eq]; simp
  refine ⟨he, F', h.step ⟨l', ws, hI', by omega, by omega⟩ ((Step.still ((Below.refl _ wr).alloc (Nat.le_refl _) _)).trans hS)⟩

theorem bk_give {fb m k : Nat} {ts : List Int} {F : Nat → Prop} {tv : Value} {w wr : World} (x : Int) (h : BkI fb ts m k F tv w wr) (hm : m + k < 900000) (hk : k % 2 = 1) :
    Calls Try.prog 9 #[.pointer (some ⟨fb, 0, none⟩), .int .i64 9, .slice (some ⟨wr.heap.size, 0, none⟩) 1 1] (wr.alloc (.cells #[.int .i64 x] 3)) fun e w' => e = .returned (.tuple #[]) ∧ ∃ F', BkI fb ts m (k + 1) F' tv w w' := by
  obtain ⟨l, ws, hI, h1, h2⟩ := h.fe
  have hal := hI.below ((Below.refl _ wr).alloc (Nat.le_refl _) (.cells #[.int .i64 x] 3))
  refine (fe_give 9 (some ⟨wr.heap.size, 0, none⟩) 1 1 [x] hal (rd_new wr [x] 3) (fun b o e _ hF => by
    injection e with e
    injection e with e _ _
    subst e
    exact Nat.lt_irrefl _ (hI.lt _ hF)) (by omega)).mono ?_
  rintro e w' ⟨he, F', hI', hS⟩
  refine ⟨he, F', h.step ⟨l, _, hI', by simp; omega, by simp; omega⟩ ((Step.still ((Below.refl _ wr).alloc (Nat.le_refl _) _)).trans hS)⟩

theorem pinNone {pinned : Bool} {border : Int} (h : PinMin (.map []) pinned border) : pinned = false := by
  have hk : intKeys (DataW.map [] : DU) = [] := rfl
  rcases h with ⟨h, _⟩ | ⟨_, h2, _⟩
  · exact h
  · rw [hk] at h2; cases h2
theorem goes_false (border : Int) (ws : List (Int × Int)) : ws.filter (goes false border) = ws ∧ ws.filter (fun x => !goes false border x) = [] :=
  ⟨List.filter_eq_self.2 (fun _ _ => rfl), List.filter_eq_nil_iff.2 (fun _ _ => by simp [goes])⟩

/-- A Release without pins. -/
theorem release_all {fb base np : Nat} {l : List Int} {ws : List (Int × Int)} {F : Nat → Prop} {w : World} (h : Fe fb base l ws np (.map []) F w) (hnp : np ≤ 100000) (hn : l.length + ws.length < 900000) :
    Calls Try.prog 10 #[.pointer (some ⟨fb, 0, none⟩)] w fun e w' => e = .returned (.int .i64 ws.length) ∧ ∃ l' F', Fe fb base l' [] np (.map []) F' w' ∧ l'.Perm (l ++ pagesOf ws) ∧ Step F F' w w' := by
  refine (fe_release h hnp hn).mono ?_
  rintro e w' ⟨r, rfl, pinned, border, l', F', hpm, hr, hI, hp, hS⟩
  obtain rfl := pinNone hpm
  rw [(goes_false border ws).1] at hr hp
  rw [(goes_false border ws).2] at hI
  exact ⟨by rw [hr], l', F', hI, hp, hS⟩
end Go.Proofs.Ytedcpckocedcoaa
