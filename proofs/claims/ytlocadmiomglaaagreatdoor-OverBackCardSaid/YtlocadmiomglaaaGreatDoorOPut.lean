/- over.Put: the walk. -/
import Derived.Test.YtlocadmiomglaaaGreatDoorOPutL
import Derived.Test.YtlocadmiomglaaaGreatDoorLoudIn
import Derived.Test.YtlocadmiomglaaaGreatDoorB5
import Derived.RangeFuncBox
import Derived.RangeFuncLeaves
import Derived.RangeFuncBound
import Derived.RangeFuncCalls
import Derived.Maps.AppendAt
namespace Go.Proofs.YtlocadmiomglaaaGreatDoor
open Go.RowKit Go.Maps Go.Conc Go.Shelf
attribute [local go_sem] Oper.semAt_some
theorem wide_fn (f : FuncId) : Fence.wide.fn f = True := eq_true trivial
attribute [local go_sem] wide_fn

section
variable {pb base : Nat} {s : PgS} {U : Nat → Prop} {w w' : World} {m k : Nat}

/-- What Put leaves. -/
def PutR (pb base m k : Nat) (s : PgS) (U : Nat → Prop) (v : ByteArray) (w : World) (e : Ending) (w' : World) : Prop :=
  ∃ s' U', Pg pb base s' U' w' ∧ Step U U' w w' ∧ OvJ m (k + 2 * cutN v) s' ∧
    ((cutN v ≤ room m s ∧ ∃ is, e = .returned (.tuple #[.int .i64 (HL.el is 0), .int .i64 0]) ∧ PutL m s s' v (cutN v) is) ∨
     (room m s < cutN v ∧ e = .returned (.tuple #[.int .i64 0, .int .i64 10]) ∧ s'.A = s.A ∧ room m s' = room m s))

theorem box_at (W : World) (t : TypeId) (x : Value) {W' : World} {b : Nat} (e : W.heap.size = b) (hb : Below (b + 1) (W.alloc (.cells #[x] t)) W') : W'.cell? ⟨b, 0, none⟩ = some x ∧ W'.frozen? ⟨b, 0, none⟩ = false := by
  have hB := Boxed.new W t x
  rw [e] at hB
  exact ⟨(hb.cell (p := ⟨b, 0, none⟩) (Nat.lt_succ_self _)).trans hB.cell, (hb.frozen (p := ⟨b, 0, none⟩) (Nat.lt_succ_self _)).trans hB.frozen⟩
theorem fr_putObj (W : World) (b : Nat) (o : Obj) : Fr (fun k => k = b) W (W.putObj b o) := ⟨rfl, rfl, rfl, by simp [World.putObj], fun k _ hk => World.putObj_heap_other hk⟩

def PutA (pb base m k : Nat) (s : PgS) (U : Nat → Prop) (v : ByteArray) (w : World) (Z : Nat) (pre : List (Nat × ByteArray)) (W : World) : Prop :=
  ∃ s' U' is tv nx, PutS pb base m (k + pre.length) U w Z s' U' nx is.reverse tv W ∧ PutL m s s' v pre.length is ∧ nx = is.headD 0

def PutX (pb base m k : Nat) (s : PgS) (U : Nat → Prop) (v : ByteArray) (w : World) (Z : Nat) (W : World) : Prop :=
  ∃ s' U', Pg pb base s' U' W ∧ Step U U' w W ∧ OvJ m (k + 2 * cutN v) s' ∧ (∀ k, w.heap.size ≤ k → k < Z → ¬ U' k) ∧ W.cell? ⟨w.heap.size + 1, 0, none⟩ = some (.int .i64 0) ∧ W.cell? ⟨w.heap.size + 2, 0, none⟩ = some (.int .i64 10) ∧ w.heap.size + 7 ≤ Z ∧ Z ≤ W.heap.size ∧ room m s < cutN v ∧ s'.A = s.A ∧ room m s' = room m s

theorem PutA.put {v : ByteArray} {Z : Nat} {pre : List (Nat × ByteArray)} {W : World} {o : Obj} (h : PutA pb base m k s U v w Z pre W) {b : Nat} (hb : w.heap.size + 5 ≤ b) (hbz : b < Z) : PutA pb base m k s U v w Z pre (W.putObj b o) := by
  obtain ⟨s', U', is, tv, nx, h1, h2, h3⟩ := h
  refine ⟨s', U', is, tv, nx, h1.keep (fr_putObj W b o) (fun k hk => ?_), h2, h3⟩
  have hk : k = b := hk
  subst hk
  refine ⟨hb, h1.off k (by omega) hbz, fun e => ?_⟩
  have := (h1.row.lt k e).1
  omega
theorem PutX.put {v : ByteArray} {Z : Nat} {W : World} {o : Obj} (h : PutX pb base m k s U v w Z W) {b : Nat} (hb : w.heap.size + 5 ≤ b) (hbz : b < Z) : PutX pb base m k s U v w Z (W.putObj b o) := by
  obtain ⟨s', U', h1, h2, h3, h4, h5, h6, h7, h8, h9⟩ := h
  have hF := fr_putObj W b o
  refine ⟨s', U', h1.keep hF (fun k hu hk => ?_), ⟨h2.1.trans hF (fun i hi hlt => ?_), h2.2⟩, h3, h4, ?_, ?_, h7, Nat.le_trans h8 hF.size, h9⟩
  · have hk : k = b := hk
    subst hk
    exact h4 k (by omega) hbz hu
  · have hi : i = b := hi
    omega
  · exact (hF.cell (p := ⟨w.heap.size + 1, 0, none⟩) (by show w.heap.size + 1 < _; omega) (fun e => by have e : w.heap.size + 1 = b := e; omega)).trans h5
  · exact (hF.cell (p := ⟨w.heap.size + 2, 0, none⟩) (by show w.heap.size + 2 < _; omega) (fun e => by have e : w.heap.size + 2 = b := e; omega)).trans h6

/-- What stands when the loop begins. -/
theorem put_start (h : Pg pb base s U w) (hJ : OvJ m k s) (v : ByteArray) {w1 W0 : World} {Z : Nat}
    (hb1 : Below (((((w.alloc (.cells #[.pointer (some ⟨pb, 0, none⟩)] 39)).alloc (.cells #[.int .i64 0] 3)).alloc (.cells #[.int .i64 0] 22)).alloc (.cells #[.int .i64 0] 3)).alloc (.cells #[.slice none 0 0] 27)).heap.size (((((w.alloc (.cells #[.pointer (some ⟨pb, 0, none⟩)] 39)).alloc (.cells #[.int .i64 0] 3)).alloc (.cells #[.int .i64 0] 22)).alloc (.cells #[.int .i64 0] 3)).alloc (.cells #[.slice none 0 0] 27)) w1)
    (hb0 : Below w1.heap.size w1 W0) (hz : Z = W0.heap.size) (hz7 : w.heap.size + 7 ≤ Z) : PutA pb base m k s U v w Z [] W0 := by
  have ha : Below w.heap.size w (w.alloc (.cells #[.pointer (some ⟨pb, 0, none⟩)] 39)) := (Below.refl _ w).alloc (Nat.le_refl _) _
  obtain ⟨A, hA⟩ : ∃ A, A = w.alloc (.cells #[.pointer (some ⟨pb, 0, none⟩)] 39) := ⟨_, rfl⟩
  obtain ⟨B, hB⟩ : ∃ B, B = A.alloc (.cells #[.int .i64 0] 3) := ⟨_, rfl⟩
  obtain ⟨C, hC⟩ : ∃ C, C = B.alloc (.cells #[.int .i64 0] 22) := ⟨_, rfl⟩
  obtain ⟨D, hD⟩ : ∃ D, D = C.alloc (.cells #[.int .i64 0] 3) := ⟨_, rfl⟩
  obtain ⟨E, hE⟩ : ∃ E, E = D.alloc (.cells #[.slice none 0 0] 27) := ⟨_, rfl⟩
  rw [← hA, ← hB, ← hC, ← hD, ← hE] at hb1
  rw [← hA] at ha
  have sA : A.heap.size = w.heap.size + 1 := by rw [hA]; simp
  have sB : B.heap.size = w.heap.size + 2 := by rw [hB]; simp [sA]
  have sC : C.heap.size = w.heap.size + 3 := by rw [hC]; simp [sB]
  have sD : D.heap.size = w.heap.size + 4 := by rw [hD]; simp [sC]
  have sE : E.heap.size = w.heap.size + 5 := by rw [hE]; simp [sD]
  have bE : Below E.heap.size E W0 := hb1.trans (hb0.mono hb1.size)
  have bD : Below D.heap.size D W0 := Below.trans (by rw [hE]; exact (Below.refl _ D).alloc (Nat.le_refl _) _) (bE.mono (by omega))
  have bC : Below C.heap.size C W0 := Below.trans (by rw [hD]; exact (Below.refl _ C).alloc (Nat.le_refl _) _) (bD.mono (by omega))
  have bB : Below B.heap.size B W0 := Below.trans (by rw [hC]; exact (Below.refl _ B).alloc (Nat.le_refl _) _) (bC.mono (by omega))
  have bA : Below A.heap.size A W0 := Below.trans (by rw [hB]; exact (Below.refl _ A).alloc (Nat.le_refl _) _) (bB.mono (by omega))
  have bw : Below w.heap.size w W0 := ha.trans (bA.mono (by omega))
  have x2 := box_at w 39 (.pointer (some ⟨pb, 0, none⟩)) (W' := W0) (b := w.heap.size) rfl (by rw [← sA, ← hA]; exact bA)
  have x4 := box_at A 3 (.int .i64 0) (W' := W0) (b := w.heap.size + 1) sA (by rw [← hB]; rw [sB] at bB; exact bB)
  have x5 := box_at B 22 (.int .i64 0) (W' := W0) (b := w.heap.size + 2) sB (by rw [← hC]; rw [sC] at bC; exact bC)
  have x6 := box_at C 3 (.int .i64 0) (W' := W0) (b := w.heap.size + 3) sC (by rw [← hD]; rw [sD] at bD; exact bD)
  have x7 := box_at D 27 (.slice none 0 0) (W' := W0) (b := w.heap.size + 4) sD (by rw [← hE]; rw [sE] at bE; exact bE)
  have hlt := h.lt
  exact ⟨s, U, [], .slice none 0 0, 0, ⟨h.below bw, hJ, Step.still bw, (fun i h1 _ hu => by have := hlt i hu; omega), x2.1, x4.1, x4.2, x5.1, x5.2, x6.1, x6.2, x7.1, x7.2, World.ownsRow_nil _ _ _ _, (fun g hg => by cases hg), hz7, Nat.le_of_eq hz⟩, PutL.zero, rfl⟩

theorem put_make_full {Z kk j : Nat} {s1 : PgS} {U1 : Nat → Prop} {nx : Int} {L is : List Int} {tv : Value} {v p : ByteArray} {W W' : World} (hS : PutS pb base m kk U w Z s1 U1 nx L tv W) (hL : PutL m s s1 v j is) (hj : j < cutN v) (hnx : nx = is.headD 0) (hm : m ≤ 3000) (hk : kk < 1000000) (hr : room m s1 = 0) (hp : p.size ≤ 240) (hW : Below W.heap.size W W') :
    Calls Tryz.prog 24 #[.pointer (some ⟨pb, 0, none⟩), .agg #[.int .i64 4, .int .i64 nx, .string p]] W' fun e w3 => e = .returned (.tuple #[.int .i64 0, .int .i64 10]) ∧ ∃ U3, PutS pb base m kk U w Z s1 U3 nx L tv w3 ∧ Step U1 U3 W w3 := by
  have hb := hL.head (by omega) hS.ov hm
  have h2 := hS.later hW
  refine (ov_make_full h2.pg hS.ov hm hk (by rw [hnx]; exact hb.1) (by rw [hnx]; exact hb.2) hp hr).mono ?_
  rintro e w3 ⟨he, U3, hP, hst⟩
  exact ⟨he, U3, h2.turn hP hS.ov hst, (Step.still hW).trans hst⟩
theorem put_make_ok {Z kk j : Nat} {s1 : PgS} {U1 : Nat → Prop} {nx : Int} {L is : List Int} {tv : Value} {v : ByteArray} {W W' : World} (hS : PutS pb base m kk U w Z s1 U1 nx L tv W) (hL : PutL m s s1 v j is) (hj : j < cutN v) (hnx : nx = is.headD 0) (hm : m ≤ 3000) (hk : kk < 1000000) (hr : 0 < room m s1) (hW : Below W.heap.size W W') :
    Calls Tryz.prog 24 #[.pointer (some ⟨pb, 0, none⟩), .agg #[.int .i64 4, .int .i64 nx, .string (pieceAt v (cutN v - 1 - j))]] W' fun e w3 => e = .returned (.tuple #[.int .i64 (nextOf s1), .int .i64 0]) ∧ ∃ s3 U3, PutS pb base m (kk + 1) U w Z s3 U3 nx L tv w3 ∧ PutL m s s3 v (j + 1) (nextOf s1 :: is) ∧ Step U1 U3 W w3 := by
  have hb := hL.head (by omega) hS.ov hm
  have h2 := hS.later hW
  refine (ov_make_ok h2.pg hS.ov hm hk (by rw [hnx]; exact hb.1) (by rw [hnx]; exact hb.2) (by rw [piece_size]; omega) hr).mono ?_
  rintro e w3 ⟨he, s3, U3, hJ3, hA3, hR3, hp3, hsp3, hP, hst⟩
  exact ⟨he, s3, U3, h2.turn hP hJ3 hst, hL.next hj (by rw [hA3, hnx]) hR3 hp3 hsp3, (Step.still hW).trans hst⟩

theorem putS_push_cells {Z kk : Nat} {s1 : PgS} {U1 : Nat → Prop} {nx : Int} {L : List Int} {tv : Value} {W W2 : World} {o : Obj} (h : PutS pb base m kk U w Z s1 U1 nx L tv W) (hgr : (W.alloc o).grownBy W2 tv.ownBlock) :
    W2.cell? ⟨w.heap.size + 1 + 1 + 1, 0, none⟩ = some (.int .i64 nx) ∧ W2.frozen? ⟨w.heap.size + 1 + 1 + 1, 0, none⟩ = false ∧ W2.cell? ⟨w.heap.size + 1 + 1 + 1 + 1, 0, none⟩ = some tv ∧ W2.frozen? ⟨w.heap.size + 1 + 1 + 1 + 1, 0, none⟩ = false := by
  have hz := h.zz
  have hb := h.zb
  have hF2 : Fr (fun k => tv.ownBlock = some k) W W2 := Fr.trans ((Fr.refl (fun k => tv.ownBlock = some k) W).alloc o) (Fr.of_grown (S := fun k => tv.ownBlock = some k) hgr (fun i _ e => e)) (fun _ h _ => h)
  have hrz : ∀ k, tv.ownBlock = some k → Z ≤ k := fun k hk => (h.row.lt k hk).1
  refine ⟨(hF2.cell (p := ⟨w.heap.size + 3, 0, none⟩) (by show w.heap.size + 3 < _; omega) (fun hs => ?_)).trans h.c6, (hF2.frozen (p := ⟨w.heap.size + 3, 0, none⟩) (by show w.heap.size + 3 < _; omega) (fun hs => ?_)).trans h.f6, (hF2.cell (p := ⟨w.heap.size + 4, 0, none⟩) (by show w.heap.size + 4 < _; omega) (fun hs => ?_)).trans h.c7, (hF2.frozen (p := ⟨w.heap.size + 4, 0, none⟩) (by show w.heap.size + 4 < _; omega) (fun hs => ?_)).trans h.f7⟩
  all_goals (have := hrz _ hs; (first | (change Z ≤ w.heap.size + 3 at this; omega) | (change Z ≤ w.heap.size + 4 at this; omega)))

/-- The loop's own blocks and what the closure reads. -/
theorem put_holds {Z : Nat} {U1 U3 S : Nat → Prop} {W W3 W' : World} {Bs B : Nat} {cp : Option Addr} (hst : Step U1 U3 W W3) (hF : Fr S W3 W') (hoff : ∀ k, w.heap.size ≤ k → k < Z → ¬ U1 k) (hzz : Z ≤ W.heap.size) (hB : B + 2 = Z) (hBs : w.heap.size + 5 ≤ Bs ∧ Bs < Z) (hcp : ∀ a, cp = some a → w.heap.size + 5 ≤ a.block ∧ a.block < Z) (hSS : ∀ k, S k → k < w.heap.size + 5 ∨ Z ≤ k) (h5 : w.heap.size + 5 ≤ B) : Hold2 B W W' ∧ KpB Bs cp W W' := by
  have hkey : ∀ k, w.heap.size + 5 ≤ k → k < Z → W'.heap[k]? = W.heap[k]? := fun k h1 h2 => by
    refine (hF.block k (by have := hst.1.size; omega) (fun hs => ?_)).trans (hst.1.block k (by omega) (hoff k (by omega) h2))
    rcases hSS k hs with h | h <;> omega
  refine ⟨⟨hkey B h5 (by omega), hkey (B + 1) (by omega) (by omega)⟩, Nat.le_trans hst.1.size hF.size, fun k hk => ?_⟩
  rcases hk with rfl | ⟨a, ha, rfl⟩
  · exact hkey _ hBs.1 hBs.2
  · exact hkey _ (hcp a ha).1 (hcp a ha).2

/-- The loop stops: the pages that were made are dropped. -/
theorem put_stop {Z kk j : Nat} {s1 s3 : PgS} {U3 : Nat → Prop} {nx : Int} {L is : List Int} {tv : Value} {v : ByteArray} {W : World} (h : PutS pb base m kk U w Z s3 U3 nx L tv W) (hu : UndoL m s s3 L L.length) (hL : PutL m s s1 v j is) (hj : j < cutN v) (hr : room m s1 = 0) (hkk : kk ≤ k + 2 * cutN v) :
    PutX pb base m k s U v w Z ((W.setCell ⟨w.heap.size + 1, 0, none⟩ (.int .i64 0)).setCell ⟨w.heap.size + 1 + 1, 0, none⟩ (.int .i64 10)) ∧ Fr (fun k => k = w.heap.size + 1 ∨ k = w.heap.size + 2) W ((W.setCell ⟨w.heap.size + 1, 0, none⟩ (.int .i64 0)).setCell ⟨w.heap.size + 1 + 1, 0, none⟩ (.int .i64 10)) := by
  have hz := h.zz
  have hb := h.zb
  have hF : Fr (fun k => k = w.heap.size + 1 ∨ k = w.heap.size + 2) W ((W.setCell ⟨w.heap.size + 1, 0, none⟩ (.int .i64 0)).setCell ⟨w.heap.size + 2, 0, none⟩ (.int .i64 10)) := ((Fr.refl _ W).setCell (p := ⟨w.heap.size + 1, 0, none⟩) (fun _ => .inl rfl) _).setCell (p := ⟨w.heap.size + 2, 0, none⟩) (fun _ => .inr rfl) _
  obtain ⟨hA, hrm⟩ := hu.done
  have h0 := hL.room
  refine ⟨⟨s3, U3, h.pg.keep hF (fun i hi hs => ?_), ⟨h.st.1.trans hF (fun i hs hlt => by rcases hs with e | e <;> omega), h.st.2⟩, h.ov.mono hkk, h.off, ?_, ?_, hb, Nat.le_trans hz hF.size, by omega, hA, hrm⟩, hF⟩
  · rcases hs with e | e
    · exact h.off i (by omega) (by omega) hi
    · exact h.off i (by omega) (by omega) hi
  · rw [set_far _ _ _ _ (by show w.heap.size + 1 + 1 ≠ w.heap.size + 1; omega)]
    exact cell_set_same _ _ _ _ h.c4
  · exact cell_set_same _ _ _ (.int .i64 0) (by
      rw [set_far _ _ _ _ (by show w.heap.size + 1 ≠ w.heap.size + 2; omega)]
      exact h.c5)

theorem results_cells2 {fn : Func} {p q : Tmp} {t u : TypeId} (h : fn.results = #[.cell p t, .cell q u]) (tmps : Array Value) (P : Program) (W : World) (a b : Addr) (x y : Value) (ha : tmps.getD p undef = .pointer (some a)) (hb : tmps.getD q undef = .pointer (some b))
    (hx : (loadVar t a).run P W = .ok x W) (hy : (loadVar u b).run P W = .ok y W) : (results fn tmps).run P W = .ok (.tuple #[x, y]) W := by
  have ha' : tmps[p]?.getD undef = .pointer (some a) := by simpa using ha
  have hb' : tmps[q]?.getD undef = .pointer (some b) := by simpa using hb
  simp only [results, h]
  simp [Sem.run_bind, Result.andThen, ha', hb', hx, hy, asAddr]

theorem put_fin {Z B : Nat} {s3 : PgS} {U3 : Nat → Prop} {nx : Int} {L is : List Int} {tv : Value} {v : ByteArray} {W : World} (o : Obj) (h : PutS pb base m (k + cutN v) U w Z s3 U3 nx L tv W) (hL : PutL m s s3 v (cutN v) is) (hnx : nx = is.headD 0) (hB : w.heap.size + 5 ≤ B) (hBZ : B < Z) :
    (((W.setCell ⟨w.heap.size + 1, 0, none⟩ (.int .i64 nx)).setCell ⟨w.heap.size + 1 + 1, 0, none⟩ (.int .i64 0)).putObj B o).cell? ⟨w.heap.size + 1, 0, none⟩ = some (.int .i64 nx) ∧ (((W.setCell ⟨w.heap.size + 1, 0, none⟩ (.int .i64 nx)).setCell ⟨w.heap.size + 1 + 1, 0, none⟩ (.int .i64 0)).putObj B o).cell? ⟨w.heap.size + 1 + 1, 0, none⟩ = some (.int .i64 0) ∧
      PutR pb base m k s U v w (.returned (.tuple #[.int .i64 nx, .int .i64 0])) (((W.setCell ⟨w.heap.size + 1, 0, none⟩ (.int .i64 nx)).setCell ⟨w.heap.size + 1 + 1, 0, none⟩ (.int .i64 0)).putObj B o) := by
  have hz := h.zz
  have hb := h.zb
  have hF1 : Fr (fun k => k = w.heap.size + 1 ∨ k = w.heap.size + 2 ∨ k = B) W ((W.setCell ⟨w.heap.size + 1, 0, none⟩ (.int .i64 nx)).setCell ⟨w.heap.size + 2, 0, none⟩ (.int .i64 0)) := ((Fr.refl _ W).setCell (p := ⟨w.heap.size + 1, 0, none⟩) (fun _ => .inl rfl) _).setCell (p := ⟨w.heap.size + 2, 0, none⟩) (fun _ => .inr (.inl rfl)) _
  have hP := fr_putObj ((W.setCell ⟨w.heap.size + 1, 0, none⟩ (.int .i64 nx)).setCell ⟨w.heap.size + 2, 0, none⟩ (.int .i64 0)) B o
  have hF := Fr.trans hF1 hP (fun i hi _ => .inr (.inr hi))
  have hsz := hF1.size
  have h0 := hL.room
  have x4 : ((W.setCell ⟨w.heap.size + 1, 0, none⟩ (.int .i64 nx)).setCell ⟨w.heap.size + 2, 0, none⟩ (.int .i64 0)).cell? ⟨w.heap.size + 1, 0, none⟩ = some (.int .i64 nx) := by
    rw [set_far _ _ _ _ (by show w.heap.size + 2 ≠ w.heap.size + 1; omega)]
    exact cell_set_same _ _ _ _ h.c4
  have x5 : ((W.setCell ⟨w.heap.size + 1, 0, none⟩ (.int .i64 nx)).setCell ⟨w.heap.size + 2, 0, none⟩ (.int .i64 0)).cell? ⟨w.heap.size + 2, 0, none⟩ = some (.int .i64 0) := cell_set_same _ _ _ (.int .i64 0) (by
    rw [set_far _ _ _ _ (by show w.heap.size + 1 ≠ w.heap.size + 2; omega)]
    exact h.c5)
  refine ⟨(hP.cell (p := ⟨w.heap.size + 1, 0, none⟩) (by show w.heap.size + 1 < _; omega) (fun e => by have e : w.heap.size + 1 = B := e; omega)).trans x4, (hP.cell (p := ⟨w.heap.size + 2, 0, none⟩) (by show w.heap.size + 2 < _; omega) (fun e => by have e : w.heap.size + 2 = B := e; omega)).trans x5, s3, U3, h.pg.keep hF (fun i hi hs => ?_), ⟨h.st.1.trans hF (fun i hs hlt => by rcases hs with e | e | e <;> omega), h.st.2⟩, h.ov.mono (by omega), .inl ⟨by omega, is, ?_, hL⟩⟩
  · rcases hs with e | e | e
    · exact h.off i (by omega) (by omega) hi
    · exact h.off i (by omega) (by omega) hi
    · exact h.off i (by omega) (by omega) hi
  · rw [hnx]
    cases is with
    | nil => rfl
    | cons a r => rfl
theorem put_finx {Z B : Nat} {v : ByteArray} {W : World} (o : Obj) (h : PutX pb base m k s U v w Z W) (hB : w.heap.size + 5 ≤ B) (hBZ : B < Z) :
    (W.putObj B o).cell? ⟨w.heap.size + 1, 0, none⟩ = some (.int .i64 0) ∧ (W.putObj B o).cell? ⟨w.heap.size + 1 + 1, 0, none⟩ = some (.int .i64 10) ∧ PutR pb base m k s U v w (.returned (.tuple #[.int .i64 0, .int .i64 10])) (W.putObj B o) := by
  obtain ⟨s', U', h1, h2, h3, _, h5, h6, _, _, h9, h10, h11⟩ := h.put (o := o) hB hBZ
  exact ⟨h5, h6, s', U', h1, h2, h3, .inr ⟨h9, rfl, h10, h11⟩⟩

set_option maxHeartbeats 4000000 in
set_option maxRecDepth 100000 in
theorem put_in (n : Nat) (hn : 3 ≤ n) (h : Pg pb base s U w) (hJ : OvJ m k s) (hm : m ≤ 3000) (hk : k ≤ 100000) (v : ByteArray) (hv1 : 1 ≤ v.size) (hv2 : v.size ≤ 2000) :
    CallsIn Fence.wide n Tryz.prog 7 #[.pointer (some ⟨pb, 0, none⟩), .string v] w (PutR pb base m k s U v w) := by
  obtain ⟨i0, hi0, hz0, hz1, hz2⟩ := info_parts info_int
  have h1 : 1 ≤ n := by omega
  have hse : v.toList.isEmpty = false := by rw [str_empty]; exact decide_eq_false (by omega)
  have g2 : ¬ ((2000 : Int) < (v.size : Int)) := by omega
  have HCUT := Lib.hid (fun W => over_cut v W (by omega))
  have HP := Lib.hid h
  have HJ := Lib.hid hJ
  have HV := Lib.hid (And.intro hv1 hv2)
  clear h hJ hv1 hv2
  refine callsIn_of_wp_marks Tryz.func7 rfl trivial ?_ rfl
  simp only [Tryz.ntmps7, List.size_toArray, List.length_cons, List.length_nil, Nat.reduceAdd, Nat.reduceSub, Array.replicate_succ, Array.replicate_zero, List.push_toArray, List.append_toArray, List.nil_append, List.cons_append]
  gi_wp2_with fail
  refine (callsIn_wide.2 (HCUT.out _)).mono ?_
  rintro e w1 ⟨u, rfl, ho, hb1⟩
  obtain ⟨cp, cc, rfl⟩ := owns_slice ho
  gi_wp2_with fail
  refine (callsIn_wide.2 (back_call cp (cutN v) cc w1)).mono ?_
  rintro e w2 ⟨rfl, hw2⟩
  have hW5 : (((((w.alloc (.cells #[.pointer (some ⟨pb, 0, none⟩)] 39)).alloc (.cells #[.int .i64 0] 3)).alloc (.cells #[.int .i64 0] 22)).alloc (.cells #[.int .i64 0] 3)).alloc (.cells #[.slice none 0 0] 27)).heap.size = w.heap.size + 5 := by simp
  have HW5 := Lib.hid hW5
  have hs1 : w.heap.size + 5 ≤ w1.heap.size := by have := hb1.size; omega
  have hsz2 : w2.heap.size = w1.heap.size + 1 := by rw [hw2]; simp
  have hb2 : Below w1.heap.size w1 w2 := by rw [hw2]; exact (Below.refl _ w1).alloc (Nat.le_refl _) _
  have HBC : Hid (w2.cell? ⟨w1.heap.size, 0, none⟩ = some (.slice cp (cutN v) cc)) := Lib.hid (by rw [hw2]; exact (Boxed.new w1 45 (.slice cp (cutN v) cc)).cell)
  have HRD : Hid (RdG scells w2 w1.heap.size cp (cutN v) (cutL v)) := Lib.hid ((RdG.of_own ho (cutL_length v)).below hb2)
  have HCP : Hid (∀ a, cp = some a → w.heap.size + 5 ≤ a.block ∧ a.block < w1.heap.size) := Lib.hid (fun a e => by
    subst e
    obtain ⟨_, h9⟩ := ho
    rcases h9 with h9 | ⟨g, cap, cur, hv, hg, hgg, _⟩
    · exact absurd h9.1 (by simp)
    · injection hv with hv
      injection hv with hv
      rw [hv]
      exact ⟨by rw [← hW5]; exact hg, (Array.getElem?_eq_some_iff.1 hgg).1⟩)
  have HST : Hid (∀ o, PutA pb base m k s U v w (w2.heap.size + 2) [] ((w2.alloc (.deferred (some []))).alloc (.loop o))) := Lib.hid (fun o =>
    put_start HP.out HJ.out v hb1 (hb2.trans (((Below.refl w1.heap.size w2).alloc hb2.size _).alloc (by simp; have := hb2.size; omega) _)) (by simp) (by omega))
  have HS2 := Lib.hid hsz2
  have HS1 := Lib.hid hs1
  have HB2 : Hid (Below w1.heap.size w1 w2) := Lib.hid hb2
  have HB1 := Lib.hid hb1
  clear hw2 hb2 hsz2 hs1 hb1 ho hW5
  gi_wp2_with fail
  apply wpIn_range_held h1 (gf := 110) (lb := #[.pointer (some ⟨w1.heap.size, 0, none⟩)]) (by exact rfl) (enters_of Tryz.func110 (by kernel_rfl) rfl)
    (fun x : Nat × ByteArray => #[.int .i64 x.1, .string x.2]) (by intro _; rfl) (KpB w1.heap.size cp) (fun xs => xs = bkL (cutL v) (cutN v)) (fun _ => True) (BkOk (cutL v))
    (fun J Jx W hW hY h0 => (back1_in (n - 1) (by omega) (w2.heap.size + 1) w1.heap.size (cutN v) cc cp (cutL v) (by unfold cutN; have := HV.out; omega) J Jx hY W ((hW.cell (p := ⟨w1.heap.size, 0, none⟩) (by show w1.heap.size < _; rw [HS2.out]; omega)).trans HBC.out) ((HRD.out.below (hW.mono (by rw [HS2.out]; omega))).more (by have := hW.size; rw [HS2.out] at this; omega)) h0).mono (fun e W' h9 => ⟨h9.1, h9.2.elim (fun h => .inl ⟨_, rfl, h⟩) (fun h => h.elim (fun pre hp => .inr ⟨pre, trivial, hp⟩))⟩))
    (fun h1 h2 => h1.trans h2)
    (fun W o hlt => ⟨by simp [World.putObj], fun i hi => World.putObj_heap_other (by
      rcases hi with rfl | ⟨a, ha, rfl⟩
      · rw [HS2.out]; omega
      · have := (HCP.out a ha).2; rw [HS2.out]; omega)⟩)
    (PutA pb base m k s U v w (w2.heap.size + 2)) (fun _ W => PutX pb base m k s U v w (w2.heap.size + 2) W)
    (fun pre W o h9 _ => h9.put (by rw [HS2.out]; have := HS1.out; omega) (by omega)) (fun pre W o h9 _ => h9.put (by rw [HS2.out]; have := HS1.out; omega) (by omega))
    (fun o => HST.out o)
  · intro l x W K hK
    gi_wp2
    exact hK
  · rintro pre ⟨xi, xp⟩ W ⟨s1, U1, is, tv, nx, hS, hL, hnx⟩ ⟨hlen, hpre, hx⟩ hlt
    rw [cutL_length] at hlen hx
    have hxp : xp = pieceAt v (cutN v - 1 - pre.length) := by
      injection hx with _ hx
      rw [hx, cut_at v _ (by omega)]
    subst hxp
    obtain ⟨L, hLr⟩ : ∃ L, L = is.reverse := ⟨_, rfl⟩
    rw [← hLr] at hS
    have HLR := Lib.hid hLr
    clear hLr
    obtain ⟨tp, tc, rfl⟩ := owns_slice hS.row
    have HS := Lib.hid hS
    have HL := Lib.hid hL
    have HNX := Lib.hid hnx
    have HLEN := Lib.hid hlen
    have HN3 : Hid (cutN v ≤ 9) := Lib.hid (by unfold cutN; have := HV.out; omega)
    have c2L : ∀ q : Later W, q.1.cell? ⟨w.heap.size, 0, none⟩ = some (.pointer (some ⟨pb, 0, none⟩)) := fun q => (hS.later q.2).c2
    have c6L : ∀ q : Later W, q.1.cell? ⟨w.heap.size + 1 + 1 + 1, 0, none⟩ = some (.int .i64 nx) := fun q => (hS.later q.2).c6
    have HCL := Lib.hid (fun W' : World => clone_str (pieceAt v (cutN v - 1 - pre.length)) W' (by rw [piece_size]; omega))
    by_cases hr : room m s1 = 0
    · have HMK := Lib.hid (fun (W' : World) (hW : Below W.heap.size W W') => put_make_full hS hL hlen hnx hm (by have := HN3.out; omega) hr (p := pieceAt v (cutN v - 1 - pre.length)) (by rw [piece_size]; omega) hW)
      clear hS hL hnx hlen hpre hx
      generalize pieceAt v (cutN v - 1 - pre.length) = xp at *
      gi_wp2_with fail
      refine wpIn_region_loud (n := 5) (fun W' => ∃ p : Later W, W' = p.1) (by kernel_rfl) (by kernel_rfl) rfl rfl (by kernel_rfl) (by kernel_rfl) (by kernel_rfl) (by kernel_rfl) ⟨⟨W.drew, ((Fr.refl (fun _ => False) W).drew).below (Nat.le_refl _) (fun _ h => h.elim)⟩, rfl⟩ ?_
      simp only [List.take_succ_cons, List.take_zero]
      repeat (gi_big_quiet_step (exact ⟨fun _ => by omega, CallsIn.later_of (CallsIn.inRound _ (callsIn_wide.2 (HCL.out _)))⟩))
      refine wpQuietIn_nil ?_
      intro W' hW' K hK
      obtain ⟨⟨wq, hq⟩, hW2⟩ := hW'
      subst hW2
      refine wpIn_call rfl trivial (by omega) (enters_of Tryz.func24 (by kernel_rfl) rfl) #[.pointer (some ⟨pb, 0, none⟩), .agg #[.int .i64 4, .int .i64 nx, .string xp]] (by rfl) ?_
      refine (CallsIn.inRound _ (callsIn_wide.2 (HMK.out _ hq))).mono ?_
      rintro e w3 ⟨rfl, U3, hS3, hF3⟩
      refine ⟨_, rfl, hK _ _ ?_⟩
      simp only [List.drop_succ_cons, List.drop_zero, Act.put, List.setIfInBounds_toArray, List.set_cons_succ, List.set_cons_zero]
      repeat (gi_big_quiet_step (fail))
      refine wpQuietIn_nil ?_
      have c7 : w3.cell? ⟨w.heap.size + 1 + 1 + 1 + 1, 0, none⟩ = some (.slice tp L.length tc) := hS3.c7
      have HI0 : Hid (PutS pb base m (k + pre.length + 0) U w (w2.heap.size + 2) s1 U3 nx L (.slice tp L.length tc) w3 ∧ UndoL m s s1 L 0 ∧ Step U1 U3 W w3) := Lib.hid ⟨hS3, by rw [HLR.out]; exact UndoL.zero HL.out (by have := HLEN.out; omega), hF3⟩
      have HRL : Hid (L.length = pre.length) := Lib.hid (by rw [HLR.out, List.length_reverse]; exact HL.out.len)
      clear hS3 hF3 HMK c2L c6L HCL
      gi_wp2_with fail
      gi_loopw [43] (fun iv wr => ∃ q : Nat, q ≤ L.length ∧ iv = .int .i64 q ∧ ∃ s3 U3, Hid (PutS pb base m (k + pre.length + q) U w (w2.heap.size + 2) s3 U3 nx L (.slice tp L.length tc) wr ∧ UndoL m s s3 L q ∧ Step U1 U3 W wr)) (fun iv _ => L.length - (intOf iv).toNat)
      case atStart => exact ⟨0, Nat.zero_le _, rfl, s1, U3, HI0⟩
      case round =>
        clear HI0 c7
        obtain ⟨q, hq, rfl, s3, U4, HH⟩ := hrel
        by_cases hqlt : q < L.length
        · obtain ⟨g, cap, hv, hg1, hg2, _⟩ := owns_len HH.out.1.row (by omega)
          have htp : tp = some ⟨g, 0, none⟩ := by injection hv
          subst htp
          have hcell : wr.cell? ⟨g, q, none⟩ = some (.int .i64 L[q]) := by
            have e := HH.out.1.row.cells (g := g) rfl q (.int .i64 L[q]) (by rw [List.getElem?_map, List.getElem?_eq_getElem hqlt]; rfl)
            have e2 : ((⟨g, 0, none⟩ : Addr).add q) = ⟨g, q, none⟩ := by rw [add_at, Nat.zero_add]
            rw [e2] at e
            exact e
          have c2 : wr.cell? ⟨w.heap.size, 0, none⟩ = some (.pointer (some ⟨pb, 0, none⟩)) := HH.out.1.c2
          have hqI : (q : Int) < (L.length : Int) := by omega
          have HDR := Lib.hid (ov_drop HH.out.1.pg HH.out.1.ov hm (by have := HN3.out; have := HLEN.out; have := HRL.out; omega) (HH.out.2.1.mem hqlt))
          have HNX2 : Hid (∀ (s4 : PgS) (U5 : Nat → Prop) (w4 : World), OvJ m (k + pre.length + q + 1) s4 → s4.A = ridA L[q] s3.A → s4.pages = s3.pages → s4.sp.length = s3.sp.length + 1 → Pg pb base s4 U5 w4 → Step U4 U5 wr w4 → PutS pb base m (k + pre.length + (q + 1)) U w (w2.heap.size + 2) s4 U5 nx L (.slice (some ⟨g, 0, none⟩) L.length tc) w4 ∧ UndoL m s s4 L (q + 1) ∧ Step U1 U5 W w4) := Lib.hid (fun s4 U5 w4 a1 a2 a3 a4 a5 a6 => ⟨HH.out.1.turn a5 a1 a6, HH.out.2.1.next hqlt HH.out.1.ov a2 a3 a4, HH.out.2.2.trans a6⟩)
          have hL9 : L.length ≤ 9 := by have := HRL.out; have := HLEN.out; have := HN3.out; omega
          clear HH hv hg1 hg2
          generalize L[q] = id at *
          gi_wp2_with fail
          refine ⟨fun _ => by omega, (CallsIn.inRound _ (callsIn_wide.2 HDR.out)).mono ?_⟩
          rintro e w4 ⟨rfl, s4, U5, a1, a2, a3, a4, _, a5, a6⟩
          have HN4 := Lib.hid (HNX2.out s4 U5 w4 a1 a2 a3 a4 a5 a6)
          clear a1 a2 a3 a4 a5 a6 HDR HNX2 hcell c2
          gi_wp2_with fail
          go_roundw
          case rel => exact ⟨q + 1, by omega, by simp, s4, U5, HN4⟩
          case measure => simp [intOf]; omega
        · obtain rfl : q = L.length := by omega
          have hqI : ¬ ((L.length : Int) < (L.length : Int)) := by omega
          have HFIN := Lib.hid (put_stop (k := k) HH.out.1 HH.out.2.1 HL.out HLEN.out hr (by have := HRL.out; have := HLEN.out; omega))
          have HHO := Lib.hid (put_holds (S := fun k => k = w.heap.size + 1 ∨ k = w.heap.size + 2) (B := w2.heap.size) (Bs := w1.heap.size) (cp := cp) HH.out.2.2 HFIN.out.2 HS.out.off HS.out.zz rfl ⟨HS1.out, by rw [HS2.out]; omega⟩ (fun a ha => ⟨(HCP.out a ha).1, by have := (HCP.out a ha).2; rw [HS2.out]; omega⟩) (fun i hi => by rcases hi with e | e <;> (rw [e]; exact .inl (by omega))) (by rw [HS2.out]; have := HS1.out; omega))
          have c4 : wr.cell? ⟨w.heap.size + 1, 0, none⟩ = some (.int .i64 0) := HH.out.1.c4
          have c5 : wr.cell? ⟨w.heap.size + 1 + 1, 0, none⟩ = some (.int .i64 0) := HH.out.1.c5
          have f4 : wr.frozen? ⟨w.heap.size + 1, 0, none⟩ = false := HH.out.1.f4
          have f5 : wr.frozen? ⟨w.heap.size + 1 + 1, 0, none⟩ = false := HH.out.1.f5
          clear HH
          gi_wp2_with fail
          exact ⟨HHO.out.1, HFIN.out.1⟩
    · have HMK := Lib.hid (fun (W' : World) (hW : Below W.heap.size W W') => put_make_ok hS hL hlen hnx hm (by have := HN3.out; omega) (by omega) hW)
      clear hS hL hnx hlen hpre hx
      generalize pieceAt v (cutN v - 1 - pre.length) = xp at *
      gi_wp2_with fail
      refine wpIn_region_loud (n := 5) (fun W' => ∃ p : Later W, W' = p.1) (by kernel_rfl) (by kernel_rfl) rfl rfl (by kernel_rfl) (by kernel_rfl) (by kernel_rfl) (by kernel_rfl) ⟨⟨W.drew, ((Fr.refl (fun _ => False) W).drew).below (Nat.le_refl _) (fun _ h => h.elim)⟩, rfl⟩ ?_
      simp only [List.take_succ_cons, List.take_zero]
      repeat (gi_big_quiet_step (exact ⟨fun _ => by omega, CallsIn.later_of (CallsIn.inRound _ (callsIn_wide.2 (HCL.out _)))⟩))
      refine wpQuietIn_nil ?_
      intro W' hW' K hK
      obtain ⟨⟨wq, hq⟩, hW2⟩ := hW'
      subst hW2
      refine wpIn_call rfl trivial (by omega) (enters_of Tryz.func24 (by kernel_rfl) rfl) #[.pointer (some ⟨pb, 0, none⟩), .agg #[.int .i64 4, .int .i64 nx, .string xp]] (by rfl) ?_
      refine (CallsIn.inRound _ (callsIn_wide.2 (HMK.out _ hq))).mono ?_
      rintro e w3 ⟨rfl, s3, U3, hS3, hL3, hF3⟩
      refine ⟨_, rfl, hK _ _ ?_⟩
      simp only [List.drop_succ_cons, List.drop_zero, Act.put, List.setIfInBounds_toArray, List.set_cons_succ, List.set_cons_zero]
      repeat (gi_big_quiet_step (fail))
      refine wpQuietIn_nil ?_
      have c7 : w3.cell? ⟨w.heap.size + 1 + 1 + 1 + 1, 0, none⟩ = some (.slice tp L.length tc) := hS3.c7
      have HS3 := Lib.hid hS3
      have HL3 := Lib.hid hL3
      have HF3 := Lib.hid hF3
      have HRL : Hid (L.length = pre.length) := Lib.hid (by rw [HLR.out, List.length_reverse]; exact HL.out.len)
      have hrl9 : L.length ≤ 9 := by have := HRL.out; have := HLEN.out; have := HN3.out; omega
      have hbz9 : w2.heap.size + 2 ≤ w3.heap.size := hS3.zz
      clear hS3 hL3 hF3 HMK c2L c6L HCL
      generalize nextOf s1 = id at *
      gi_wp2_with (first
        | (gi_at_builtin; refine wpListIn_append_lies _ rfl _ _ 27 rfl (w2.heap.size + 2) 3 i0 (.int .i64 0) 1 8 Tryz.underlying27 hi0 hz0 hz1 hz2 rfl (by decide) _ L.length (L.map (Value.int .i64)) rfl ?own ⟨w3.heap.size, 0, none⟩ 1 1 [.int .i64 id] rfl rfl ?cells ?one (by omega) ?len ?bytes ?base (w3.heap.size + 1) (by simp) ?_; (case own => exact HS3.out.row.alloc _); (case cells => exact new_cells w3 _ _); (case one => simp [Value.oneCell']); (case len => unfold maxLen; omega); (case bytes => omega); (case base => simp; omega); intro g cap w5 hown hgr hat hglt
           obtain ⟨c6', f6', c7', f7'⟩ := putS_push_cells HS3.out hgr
           have HPU := Lib.hid (HS3.out.push hown hgr hat)
           clear hown hgr hat hglt)
        | fail)
      have hh := put_holds (B := w2.heap.size) (Bs := w1.heap.size) (cp := cp) HF3.out HPU.out.2 HS.out.off HS.out.zz rfl ⟨HS1.out, by rw [HS2.out]; omega⟩ (fun a ha => ⟨(HCP.out a ha).1, by have := (HCP.out a ha).2; rw [HS2.out]; omega⟩) (fun i hi => by
        rcases hi with e | e | e
        · exact .inr (HS3.out.row.lt i e).1
        · exact .inl (by rw [e]; omega)
        · exact .inl (by rw [e]; omega)) (by rw [HS2.out]; have := HS1.out; omega)
      have hpl : (pre ++ [(xi, xp)]).length = pre.length + 1 := by simp
      refine ⟨hh.1, hh.2, s3, U3, id :: is, .slice (some ⟨g, 0, none⟩) (L.length + 1) cap, id, ?_, by rw [hpl]; exact HL3.out, rfl⟩
      rw [hpl, List.reverse_cons, ← HLR.out]
      exact HPU.out.1
  · rintro xs W hxs ⟨s3, U3, is, tv, nx, hS3, hL3, hnx⟩ hD
    subst hxs
    rw [bkL_length] at hS3 hL3
    have c4 : W.cell? ⟨w.heap.size + 1, 0, none⟩ = some (.int .i64 0) := hS3.c4
    have c5 : W.cell? ⟨w.heap.size + 1 + 1, 0, none⟩ = some (.int .i64 0) := hS3.c5
    have f4 : W.frozen? ⟨w.heap.size + 1, 0, none⟩ = false := hS3.f4
    have f5 : W.frozen? ⟨w.heap.size + 1 + 1, 0, none⟩ = false := hS3.f5
    have c6 : W.cell? ⟨w.heap.size + 1 + 1 + 1, 0, none⟩ = some (.int .i64 nx) := hS3.c6
    have HS3 := Lib.hid hS3
    have HL3 := Lib.hid hL3
    have HNX := Lib.hid hnx
    have HD := Lib.hid hD
    have HFI := Lib.hid (put_fin (o := .deferred none) hS3 hL3 hnx (by rw [HS2.out]; have := HS1.out; omega : w.heap.size + 5 ≤ w2.heap.size) (by omega))
    clear hS3 hL3 hnx hD
    gi_wp2_with fail
    have hK : ((W.setCell ⟨w.heap.size + 1, 0, none⟩ (.int .i64 nx)).setCell ⟨w.heap.size + 1 + 1, 0, none⟩ (.int .i64 0)).heap[w2.heap.size]? = some (.deferred (some [])) := by
      have hF1 : Fr (fun k => k = w.heap.size + 1 ∨ k = w.heap.size + 2) W ((W.setCell ⟨w.heap.size + 1, 0, none⟩ (.int .i64 nx)).setCell ⟨w.heap.size + 2, 0, none⟩ (.int .i64 0)) := ((Fr.refl _ W).setCell (p := ⟨w.heap.size + 1, 0, none⟩) (fun _ => .inl rfl) _).setCell (p := ⟨w.heap.size + 2, 0, none⟩) (fun _ => .inr rfl) _
      exact (hF1.block _ (Array.getElem?_eq_some_iff.1 HD.out).1 (fun e => by rw [HS2.out] at e; have := HS1.out; rcases e with e | e <;> omega)).trans HD.out
    refine ⟨by simp, .inl ⟨_, _, rfl, run_takeDeferred hK, ?_⟩⟩
    have x4 := HFI.out.1
    have x5 := HFI.out.2.1
    exact ⟨_, results_cells2 rfl _ _ _ ⟨w.heap.size + 1, 0, none⟩ ⟨w.heap.size + 1 + 1, 0, none⟩ (.int .i64 nx) (.int .i64 0) rfl rfl (by go_simp) (by go_simp), HFI.out.2.2⟩
  · rintro pre W _ hX hD
    have HX := Lib.hid hX
    have HD := Lib.hid hD
    have HFI := Lib.hid (put_finx (o := .deferred none) hX (by rw [HS2.out]; have := HS1.out; omega : w.heap.size + 5 ≤ w2.heap.size) (by omega))
    clear hX hD
    gi_wp2_with fail
    refine ⟨by simp, .inl ⟨_, _, rfl, run_takeDeferred HD.out, ?_⟩⟩
    have x4 := HFI.out.1
    have x5 := HFI.out.2.1
    exact ⟨_, results_cells2 rfl _ _ _ ⟨w.heap.size + 1, 0, none⟩ ⟨w.heap.size + 1 + 1, 0, none⟩ (.int .i64 0) (.int .i64 10) rfl rfl (by go_simp) (by go_simp), HFI.out.2.2⟩

theorem over_put (h : Pg pb base s U w) (hJ : OvJ m k s) (hm : m ≤ 3000) (hk : k ≤ 100000) (v : ByteArray) (hv1 : 1 ≤ v.size) (hv2 : v.size ≤ 2000) :
    Calls Tryz.prog 7 #[.pointer (some ⟨pb, 0, none⟩), .string v] w (PutR pb base m k s U v w) := callsIn_wide.1 (put_in 9 (by omega) h hJ hm hk v hv1 hv2)
end
end Go.Proofs.YtlocadmiomglaaaGreatDoor
