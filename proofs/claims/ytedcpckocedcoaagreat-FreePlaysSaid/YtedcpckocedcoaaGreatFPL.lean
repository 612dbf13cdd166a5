/- FreePlays: what stands in the free pages, the reference and the Book. -/
import Derived.Test.YtedcpckocedcoaaGreatFRefR
import Derived.Test.YtedcpckocedcoaaGreatFHoldsL
import Derived.Test.YtedcpckocedcoaaGreatFAlive
import Derived.Test.YtedcpckocedcoaaGreatBkN
import Derived.Test.YtedcpckocedcoaaGreatFPOpen
namespace Go.Proofs.YtedcpckocedcoaaGreat
open Go.RowKit

theorem srt_foldl : ∀ (ps l : List Int), ps.foldl CL.ins (CL.srt l) = CL.srt (l ++ ps)
  | [], l => by simp
  | x :: ps, l => by rw [List.foldl_cons, ← CL.srt_ins, srt_foldl ps (l ++ [x]), List.append_assoc]; rfl
theorem insMany_srt (l ps : List Int) (k : Nat) (hk : ps.length ≤ k) : insMany (CL.srt l) ps k = CL.srt (l ++ ps) := by
  unfold insMany
  rw [List.take_of_length_le hk, srt_foldl]
theorem relL_srt (l P : List Int) (ws : List (Int × Int)) : relL (CL.srt l) P ws = CL.srt (l ++ (ws.filter (goP P)).map (·.2)) := by
  unfold relL
  rw [← srt_foldl, List.foldl_map]
theorem srt_perm_eq {a b : List Int} (h : a.Perm b) : CL.srt a = CL.srt b :=
  CL.srt_unique (((CL.srt_perm a).trans h).trans (CL.srt_perm b).symm) (CL.srt_sorted a) (CL.srt_sorted b)
theorem ins_srt {P : List Int} (h : P.Pairwise (· ≤ ·)) (x : Int) : (CL.ins P x).Pairwise (· ≤ ·) := CL.ins_sorted h
theorem erase_srt {P : List Int} (h : P.Pairwise (· ≤ ·)) (x : Int) : (P.erase x).Pairwise (· ≤ ·) := h.sublist List.erase_sublist
/-- The least of what the map pins is the first of the sorted ones. -/
theorem goes_goP {P : List Int} {D : DU} {pinned : Bool} {border : Int} (hP : P.Pairwise (· ≤ ·)) (hM : PinsR P D) (h : PinMin D pinned border) (x : Int × Int) : goes pinned border x = goP P x := by
  rcases hM.min h with ⟨rfl, rfl⟩ | ⟨rfl, hm, hl⟩
  · simp [goes, goP]
  · cases P with
    | nil => cases hm
    | cons y P =>
      have h1 := hl y List.mem_cons_self
      have h2 : y ≤ border := by
        rcases List.mem_cons.1 hm with e | e
        · omega
        · exact (List.pairwise_cons.1 hP).1 border e
      have e : border = y := by omega
      subst e
      simp [goes, goP, HL.el]

/-- All of it, apart from each other. -/
structure FPW (w W : World) (fb rb bb N np : Nat) (l : List Int) (ws : List (Int × Int)) (D : DU) (P : List Int) (Fq : Nat → Prop) (lv wv pv : Value) (Fk : Nat → Prop) : Prop where
  f : Fe fb w.heap.size l ws np D Fq W
  r : RFI rb w.heap.size lv wv pv (CL.srt l) ws P W
  k : BookN W bb w.heap.size N Fk
  fr : ∀ j, Fq j → ¬ rfF rb lv wv pv j
  fk : ∀ j, Fq j → ¬ Fk j
  rk : ∀ j, rfF rb lv wv pv j → ¬ Fk j
  pins : PinsR P D
  ps : P.Pairwise (· ≤ ·)
  bf : w.heap.size ≤ fb
  br : w.heap.size ≤ rb
  bb : w.heap.size ≤ bb
  bel : Below w.heap.size w W
end Go.Proofs.YtedcpckocedcoaaGreat
