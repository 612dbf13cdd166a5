/- free's Free: the function that Release hands to slices.DeleteFunc. -/
import Derived.Test.YtedcpckocedcoaaGreatFreeK
namespace Go.Proofs.YtedcpckocedcoaaGreat
open Go.RowKit

/-- What that function has caught. -/
def RelE (Bp Bb Bf fb : Nat) (pinned : Bool) (border : Int) (w : World) : Prop :=
  w.cell? ⟨Bp, 0, none⟩ = some (.bool pinned) ∧ w.cell? ⟨Bb, 0, none⟩ = some (.int .i64 border) ∧ w.cell? ⟨Bf, 0, none⟩ = some (.pointer (some ⟨fb, 0, none⟩))
def goes (pinned : Bool) (border : Int) (x : Int × Int) : Bool := !pinned || decide (x.1 ≤ border)
theorem RelE.keep {Bp Bb Bf fb : Nat} {pinned : Bool} {border : Int} {w w' : World} {S : Nat → Prop} (h : RelE Bp Bb Bf fb pinned border w) (hF : Fr S w w') (h1 : ¬ S Bp) (h2 : ¬ S Bb) (h3 : ¬ S Bf) : RelE Bp Bb Bf fb pinned border w' :=
  ⟨(hF.cell (p := ⟨Bp, 0, none⟩) (cell_lt h.1) h1).trans h.1, (hF.cell (p := ⟨Bb, 0, none⟩) (cell_lt h.2.1) h2).trans h.2.1, (hF.cell (p := ⟨Bf, 0, none⟩) (cell_lt h.2.2) h3).trans h.2.2⟩

section
variable {Bp Bb Bf fb base : Nat} {pinned : Bool} {border t p : Int} {v : Value} {l : List Int} {w : World}

set_option maxRecDepth 100000 in
theorem rel_no (h : RelE Bp Bb Bf fb pinned border w) (hg : goes pinned border (t, p) = false) :
    Calls Tryz.prog 47 #[.agg #[.int .i64 t, .int .i64 p], .pointer (some ⟨Bp, 0, none⟩), .pointer (some ⟨Bb, 0, none⟩), .pointer (some ⟨Bf, 0, none⟩)] w fun e w' => e = .returned (.bool false) ∧ Below w.heap.size w w' := by
  obtain ⟨c0, c1, c2⟩ := h
  unfold goes at hg
  obtain ⟨rfl, ht⟩ : pinned = true ∧ ¬ t ≤ border := by
    cases pinned
    · simp at hg
    · simpa using hg
  clear hg
  have hl0 := cell_lt c0
  have hl1 := cell_lt c1
  have HB := Lib.hid (fun a => (Below.refl w.heap.size w).alloc (Nat.le_refl _) a)
  go_enter Tryz.func47, Tryz.ntmps47
  go_wp2
  go_ret
  exact ⟨rfl, HB.out _⟩

set_option maxHeartbeats 2000000 in
set_option maxRecDepth 100000 in
theorem rel_yes (h : RelE Bp Bb Bf fb pinned border w) (hI : PileI fb base v l w) (hn : l.length + 1 < 1000000) (hg : goes pinned border (t, p) = true) :
    Calls Tryz.prog 47 #[.agg #[.int .i64 t, .int .i64 p], .pointer (some ⟨Bp, 0, none⟩), .pointer (some ⟨Bb, 0, none⟩), .pointer (some ⟨Bf, 0, none⟩)] w fun e w' => e = .returned (.bool true) ∧ ∃ v' l', PileI fb base v' l' w' ∧ l'.Perm (l ++ [p]) ∧ Fr (pileF fb v) w w' ∧ (∀ g, v'.ownBlock = some g → Lies v g w.heap.size) ∧ Others fb 0 w w' := by
  obtain ⟨c0, c1, c2⟩ := h
  have hl0 := cell_lt c0
  have hl1 := cell_lt c1
  have hl2 := cell_lt c2
  have HI := Lib.hid hI
  have hb : (!pinned || decide (t ≤ border)) = true := hg
  clear hI hg
  have hl : PileI fb base v l ((w.alloc (.cells #[.int .i64 t, .int .i64 p] 81)).drew.alloc (.cells #[.int .i64 p] 3)) := HI.out.keep ((((Fr.refl (fun _ => False) w).alloc _).drew).alloc _) (fun _ _ h => h)
  have HF0 : Hid (Fr (pileF fb v) w ((w.alloc (.cells #[.int .i64 t, .int .i64 p] 81)).drew.alloc (.cells #[.int .i64 p] 3))) := Lib.hid ((((Fr.refl _ w).alloc _).drew).alloc _)
  have HO0 : Hid (Others fb 0 w ((w.alloc (.cells #[.int .i64 t, .int .i64 p] 81)).drew.alloc (.cells #[.int .i64 p] 3))) := Lib.hid (Others.of_block ((((Fr.refl (fun _ => False) w).alloc _).drew.alloc _).block fb (cell_lt HI.out.1.1) (fun h => h)))
  have HLT : Hid (∀ g, v.ownBlock = some g → g < w.heap.size) := Lib.hid (fun g hg => by
    obtain ⟨_, hb, _⟩ := row_block HI.out.1.2.2.1 hg
    exact (Array.getElem?_eq_some_iff.1 hb).1)
  have HFB : Hid (fb < w.heap.size) := Lib.hid (cell_lt HI.out.1.1)
  have HP := Lib.hid (pile_put_o fb base v l [p] (some ⟨w.heap.size + 1, 0, none⟩) 1 1 _ hl ⟨rfl, fun _ => ⟨w.heap.size + 1, 0, rfl, by simp, fun k hk => by
    obtain rfl : k = 0 := by omega
    have e9 := new_cells ((w.alloc (.cells #[.int .i64 t, .int .i64 p] 81)).drew) [.int .i64 p] 3 0 _ rfl
    rw [addr0] at e9
    have hz : ((w.alloc (.cells #[.int .i64 t, .int .i64 p] 81)).drew).heap.size = w.heap.size + 1 := by simp
    rw [hz] at e9
    exact e9⟩⟩ (fun b o e _ hF => by
    injection e with e
    injection e with e _ _
    subst e
    rcases hF with hF | hF
    · have := HFB.out; omega
    · have := HLT.out _ hF; omega) hn)
  clear hl
  have hcase : pinned = false ∨ (pinned = true ∧ t ≤ border) := by
    cases pinned
    · exact .inl rfl
    · exact .inr ⟨rfl, by simpa using hb⟩
  clear hb
  rcases hcase with rfl | ⟨rfl, htb⟩
  all_goals
    go_enter Tryz.func47, Tryz.ntmps47
    go_wp2_with fail
    go_region_with (go_at_call 40; refine HP.out.mono ?_; rintro e w2 ⟨rfl, v', l', hI2, hp2, hF2, hL2, hO2⟩; have HFIN : Hid (∃ v' l', PileI fb base v' l' w2 ∧ l'.Perm (l ++ [p]) ∧ Fr (pileF fb v) w w2 ∧ (∀ g, v'.ownBlock = some g → Lies v g w.heap.size) ∧ Others fb 0 w w2) := Lib.hid ⟨v', l', hI2, hp2, Fr.trans HF0.out hF2 (fun i hi _ => hi), fun g hg => (hL2 g hg).imp id (fun h => Nat.le_trans HF0.out.size h), HO0.out.trans hO2⟩; clear hI2 hp2 hF2 hL2 hO2)
    all_goals
      go_wp2
      go_ret
      exact ⟨rfl, HFIN.out⟩
end
end Go.Proofs.YtedcpckocedcoaaGreat
