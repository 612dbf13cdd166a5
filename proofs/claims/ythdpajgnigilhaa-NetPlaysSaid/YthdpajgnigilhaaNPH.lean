/- arboretumlaw27.NetPlays: what stands ahead of the walk. (Printed by gen-nplay.py.) -/
import Derived.Test.YthdpajgnigilhaaQ7
import Derived.Deep.DeepCutAuto
import Derived.Deep.CutBlock
import Derived.Deep.LoopGhost
namespace Go.Proofs.Ythdpajgnigilhaa
open Go.RowKit

section
variable {w w0 : World} {nb rb : Nat} {O O' : Nat → Prop} {c d c' d' : Nat} {S S' : List Nd} {L L' : List St} {C C2 C' C2' : List (Int × Int)} {W W1 W' : World}
theorem NPS.back (h : NPS w w0 nb rb O c d S L C C2 W) (h2 : NPS w W1 nb rb O' c' d' S' L' C' C2' W') (hb : Below W.heap.size W W1) (hO : ∀ j, O j → O' j) : NPS w w0 nb rb O c' d' S' L' C' C2' W' := by
  have hfr := h.fr
  obtain ⟨_, _, _, _, _, _, _, h⟩ := h
  obtain ⟨a, b, e, f, g, i, j, h2⟩ := h2
  exact ⟨a, b, e, f, g, i, j, { h2 with
    fr := Fr.trans (Fr.trans hfr (Fr.of_all (S := fun _ => False) hb) (fun _ h _ => h.elim)) h2.fr (fun i hi _ e => hi (hO i e))
    lt := h.lt
    of := fun j hj => h2.of j (hO j hj) }⟩
theorem NPS.box (h : NPS w w0 nb rb O c d S L C C2 W) (X : Obj) : NPS w (W.alloc X) nb rb (fun j => O j ∨ j = W.heap.size) c d S L C C2 (W.alloc X) :=
  h.again ((Below.refl _ W).alloc (Nat.le_refl _) X) (fun j hj => hj.imp id (fun e => ⟨by omega, by rw [e]; simp⟩))
theorem NPS.unbox {X : Obj} (h : NPS w w0 nb rb O c d S L C C2 W) (h2 : NPS w (W.alloc X) nb rb (fun j => O j ∨ j = W.heap.size) c' d' S' L' C' C2' W') : NPS w w0 nb rb O c' d' S' L' C' C2' W' :=
  h.back h2 ((Below.refl _ W).alloc (Nat.le_refl _) X) (fun _ h => .inl h)
theorem NPS.boxed {xs : List Value} {t : TypeId} (h2 : NPS w (W.alloc (.cells xs.toArray t)) nb rb (fun j => O j ∨ j = W.heap.size) c' d' S' L' C' C2' W') (k : Nat) (u : Value) (hu : xs[k]? = some u) : W'.cell? ⟨W.heap.size, k, none⟩ = some u := by
  have e := new_cells W xs t k u hu
  rw [add_at, Nat.zero_add] at e
  exact (h2.fr.cell (p := ⟨W.heap.size, k, none⟩) (by simp) (fun h => h (.inr rfl))).trans e
theorem NPS.free (h : NPS w w0 nb rb O c d S L C C2 W) : NPS w W nb rb (fun _ => False) c d S L C C2 W := h.again (Below.refl _ _) (fun _ h => h.elim)
theorem NPR.of {i : Nat} (h : NPS w w0 nb rb O c d S (S.map stOf) C C W) (hc : c ≤ 700 * i) (hd : d ≤ i) : NPR w w0 nb rb O i W := ⟨S, C, h.more hc hd⟩
end

def nopAt (zs : List NtOp) (i : Nat) : NtOp := zs.getD i default
theorem noc_cells {w : World} {B n : Nat} {p : Option Addr} {zs : List NtOp} (h : RdG noc w B p n zs) (i : Nat) (hi : i < n) : ∃ b o, p = some ⟨b, o, none⟩ ∧ b < B ∧ w.cell? ⟨b, o + i * 4, none⟩ = some (.int .i64 (nopAt zs i).k) ∧ w.cell? ⟨b, o + i * 4 + 1, none⟩ = some (.int .i64 (nopAt zs i).a) ∧ w.cell? ⟨b, o + i * 4 + 2, none⟩ = some (.int .i64 (nopAt zs i).b) ∧ w.cell? ⟨b, o + i * 4 + 3, none⟩ = some (.slice (nopAt zs i).p (nopAt zs i).n (nopAt zs i).c) := by
  obtain ⟨b, o, e, hb, hc⟩ := h.el noc_length i hi
  exact ⟨b, o, e, hb, hc 0 _ rfl, hc 1 _ rfl, hc 2 _ rfl, hc 3 _ rfl⟩
theorem ne_int (x : Int) : (x != x) = false := by simp
theorem ne_bool (x : Bool) : (x != x) = false := by simp
set_option maxRecDepth 100000 in
theorem run_nePk0 (w : World) : (binOp .neq 34 (pkv 0 0 ByteArray.empty) (.agg #[.int .i64 0, .int .i64 0, .string ⟨#[]⟩])).run Try.prog w = .ok (.bool false) w := by kernel_rfl

/-- An empty net beside an empty reference. -/
theorem np_start {w W : World} {nb rb : Nat} {F : Nat → Prop} (h : Nt w.heap.size nb [] 0 (.map none) none (.deferred none) F W) (hb : Below w.heap.size w W) (hr : RNI rb w.heap.size (.slice none 0 0) (.slice none 0 0) [] [] W) (hd : ¬ F rb) (hq : w.heap.size ≤ rb) : NPR w W nb rb (fun _ => False) 0 W := by
  refine ⟨[], [], 0, .map none, none, .deferred none, F, .slice none 0 0, .slice none 0 0, ?_⟩
  exact { n := h, ns := NS.nil 0, ats := fun y hy => (by cases hy), ls := by simp, ll := by simp, s0 := by omega, s1 := by omega, cut := .inl ⟨rfl, rfl, rfl⟩, cl := by simp, r := hr
          rf := fun k hk => by
            rcases hk with rfl | hk | hk
            · exact ⟨hd, by simp⟩
            · cases hk
            · cases hk
          mge := fun k hk => (by cases hk), bq := hq, bel := hb, fr := Fr.refl _ _, lt := fun _ h => h.elim, of := fun _ h => h.elim }
theorem nt_zero (base : Nat) (W : World) (hb : base ≤ W.heap.size) : Nt base W.heap.size [] 0 (.map none) none (.deferred none) (fun k => k = W.heap.size) (W.alloc (.cells #[.slice none 0 0, .int .i64 0, .map none, .chan none] 51)) := by
  have hI : NetI W.heap.size base (.slice none 0 0) [] 0 (.map none) (.chan none) (W.alloc (.cells #[.slice none 0 0, .int .i64 0, .map none, .chan none] 51)) :=
    ⟨⟨by go_simp, by go_simp, World.ownsRow_nil _ _ _ _, by simp [Value.ownBlock], by simp, by simp; omega⟩, by go_simp, by go_simp, by go_simp, by go_simp, by go_simp, by go_simp, HL.isHeap_nil⟩
  refine ⟨.slice none 0 0, .chan none, [], hI, by simp, .inl rfl, (fun _ h => (by cases h)), (fun _ h => (by cases h)), (fun k hk => ⟨(by have : k = W.heap.size := hk; omega), (by have : k = W.heap.size := hk; rw [this]; exact cell_lt hI.c1)⟩), by simp; omega, ?_⟩
  funext k
  simp [sendS, netF, Value.ownBlock]
theorem rn_zero (base : Nat) (W : World) (hb : base ≤ W.heap.size) : RNI W.heap.size base (.slice none 0 0) (.slice none 0 0) [] [] (W.alloc (.cells #[.slice none 0 0, .slice none 0 0] 45)) :=
  ⟨by go_simp, by go_simp, by go_simp, by go_simp, World.ownsRow_nil _ _ _ _, World.ownsRow_nil _ _ _ _, by simp [Value.ownBlock], by simp [Value.ownBlock], by simp; omega⟩

set_option maxHeartbeats 2000000 in
set_option maxRecDepth 100000 in
theorem nplays_no (z : Bool) (p : Option Addr) (n c : Nat) (w : World) (h : 150 < n) : Calls Try.prog 6 #[.bool z, .slice p n c] w fun e w' => e = .returned (.bool true) ∧ Below w.heap.size w w' := by
  have HA := Lib.hid (fun w => alive_true w)
  go_enter Try.func6, Try.ntmps6
  go_wp2_with fail
  refine (HA.out _).mono ?_
  rintro e w3 ⟨rfl, hb3⟩
  have HB := Lib.hid hb3
  clear hb3
  go_wp2
  go_ret
  exact ⟨rfl, HB.out⟩

/-- The block of a number in a function's code. -/
def blkOf (n : Nat) : Code → Option Code
  | .block id b => if id == n then some (.block id b) else blkOf n b
  | .seq a b => (blkOf n a).orElse fun _ => blkOf n b
  | .cond _ a b => (blkOf n a).orElse fun _ => blkOf n b
  | .loop b => blkOf n b
  | _ => none
theorem blk_body {o : Option Code} {n : Nat} {c : Code} (hc : o.bind (blkOf n) = some c) : ∃ d, o = some d ∧ blkOf n d = some c := by
  cases o with
  | none => cases hc
  | some d => exact ⟨d, rfl, hc⟩
end Go.Proofs.Ythdpajgnigilhaa
