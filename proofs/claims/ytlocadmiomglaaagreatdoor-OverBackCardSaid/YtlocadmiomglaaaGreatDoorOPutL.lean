/- over.Put: what stands when some pages are made (plain). -/
import Derived.Test.YtlocadmiomglaaaGreatDoorOverC
import Derived.Test.YtlocadmiomglaaaGreatDoorOWalkL
import Derived.Test.YtlocadmiomglaaaGreatDoorOBack
import Derived.Test.YtlocadmiomglaaaGreatDoorAppIn
namespace Go.Proofs.YtlocadmiomglaaaGreatDoor
open Go.RowKit Go.Maps Go.Conc

theorem set_far (w : World) (p a : Addr) (u : Value) (h : p.block ≠ a.block) : (w.setCell p u).cell? a = w.cell? a :=
  World.cell?_setCell_other _ _ _ _ (by intro e; first | exact h (by rw [e]) | exact h (by rw [← e]))

structure PutS (pb base m kk : Nat) (U0 : Nat → Prop) (w0 : World) (Z : Nat) (s : PgS) (U : Nat → Prop) (nx : Int) (L : List Int) (tv : Value) (W : World) : Prop where
  pg : Pg pb base s U W
  ov : OvJ m kk s
  st : Step U0 U w0 W
  off : ∀ k, w0.heap.size ≤ k → k < Z → ¬ U k
  c2 : W.cell? ⟨w0.heap.size, 0, none⟩ = some (.pointer (some ⟨pb, 0, none⟩))
  c4 : W.cell? ⟨w0.heap.size + 1, 0, none⟩ = some (.int .i64 0)
  f4 : W.frozen? ⟨w0.heap.size + 1, 0, none⟩ = false
  c5 : W.cell? ⟨w0.heap.size + 2, 0, none⟩ = some (.int .i64 0)
  f5 : W.frozen? ⟨w0.heap.size + 2, 0, none⟩ = false
  c6 : W.cell? ⟨w0.heap.size + 3, 0, none⟩ = some (.int .i64 nx)
  f6 : W.frozen? ⟨w0.heap.size + 3, 0, none⟩ = false
  c7 : W.cell? ⟨w0.heap.size + 4, 0, none⟩ = some tv
  f7 : W.frozen? ⟨w0.heap.size + 4, 0, none⟩ = false
  row : W.ownsRow Z 3 1 tv L.length (L.map (Value.int .i64))
  roff : ∀ g, tv.ownBlock = some g → ¬ U g
  zb : w0.heap.size + 7 ≤ Z
  zz : Z ≤ W.heap.size

section
variable {pb base m kk Z : Nat} {U0 U : Nat → Prop} {w0 W W' : World} {s : PgS} {nx : Int} {L : List Int} {tv : Value}

theorem PutS.keep {S : Nat → Prop} (h : PutS pb base m kk U0 w0 Z s U nx L tv W) (hF : Fr S W W') (hS : ∀ k, S k → w0.heap.size + 5 ≤ k ∧ ¬ U k ∧ tv.ownBlock ≠ some k) : PutS pb base m kk U0 w0 Z s U nx L tv W' := by
  have hz := h.zz
  have hb := h.zb
  have hc : ∀ i, i < 5 → W'.cell? ⟨w0.heap.size + i, 0, none⟩ = W.cell? ⟨w0.heap.size + i, 0, none⟩ := fun i hi => hF.cell (p := ⟨w0.heap.size + i, 0, none⟩) (by show w0.heap.size + i < _; omega) (fun hs => by have := (hS _ hs).1; change w0.heap.size + 5 ≤ w0.heap.size + i at this; omega)
  have hf : ∀ i, i < 5 → W'.frozen? ⟨w0.heap.size + i, 0, none⟩ = W.frozen? ⟨w0.heap.size + i, 0, none⟩ := fun i hi => hF.frozen (p := ⟨w0.heap.size + i, 0, none⟩) (by show w0.heap.size + i < _; omega) (fun hs => by have := (hS _ hs).1; change w0.heap.size + 5 ≤ w0.heap.size + i at this; omega)
  exact ⟨h.pg.keep hF (fun k hu hs => (hS k hs).2.1 hu), h.ov, ⟨h.st.1.trans hF (fun i hs hi => by have := (hS i hs).1; omega), h.st.2⟩, h.off, (hc 0 (by omega)).trans h.c2, (hc 1 (by omega)).trans h.c4, (hf 1 (by omega)).trans h.f4, (hc 2 (by omega)).trans h.c5, (hf 2 (by omega)).trans h.f5, (hc 3 (by omega)).trans h.c6, (hf 3 (by omega)).trans h.f6, (hc 4 (by omega)).trans h.c7, (hf 4 (by omega)).trans h.f7, hF.owns h.row (fun g hg hs => (hS g hs).2.2 hg), h.roff, hb, Nat.le_trans hz hF.size⟩

theorem PutS.later (h : PutS pb base m kk U0 w0 Z s U nx L tv W) (hb : Below W.heap.size W W') : PutS pb base m kk U0 w0 Z s U nx L tv W' := h.keep (Fr.of_all (S := fun _ => False) hb) (fun _ h => h.elim)

/-- The pager turns. -/
theorem PutS.turn {kk' : Nat} {s' : PgS} {U' : Nat → Prop} (h : PutS pb base m kk U0 w0 Z s U nx L tv W) (hP : Pg pb base s' U' W') (hJ : OvJ m kk' s') (hS : Step U U' W W') : PutS pb base m kk' U0 w0 Z s' U' nx L tv W' := by
  have hz := h.zz
  have hb := h.zb
  have hc : ∀ i, i < 5 → W'.cell? ⟨w0.heap.size + i, 0, none⟩ = W.cell? ⟨w0.heap.size + i, 0, none⟩ := fun i hi => hS.1.cell (p := ⟨w0.heap.size + i, 0, none⟩) (by show w0.heap.size + i < _; omega) (h.off (w0.heap.size + i) (by omega) (by omega))
  have hf : ∀ i, i < 5 → W'.frozen? ⟨w0.heap.size + i, 0, none⟩ = W.frozen? ⟨w0.heap.size + i, 0, none⟩ := fun i hi => hS.1.frozen (p := ⟨w0.heap.size + i, 0, none⟩) (by show w0.heap.size + i < _; omega) (h.off (w0.heap.size + i) (by omega) (by omega))
  refine ⟨hP, hJ, h.st.trans hS, fun k h1 h2 hu => ?_, (hc 0 (by omega)).trans h.c2, (hc 1 (by omega)).trans h.c4, (hf 1 (by omega)).trans h.f4, (hc 2 (by omega)).trans h.c5, (hf 2 (by omega)).trans h.f5, (hc 3 (by omega)).trans h.c6, (hf 3 (by omega)).trans h.f6, (hc 4 (by omega)).trans h.c7, (hf 4 (by omega)).trans h.f7, hS.1.owns h.row h.roff, fun g hg hu => ?_, hb, Nat.le_trans hz hS.1.size⟩
  · rcases hS.2 k hu with h9 | h9
    · exact h.off k h1 h2 h9
    · omega
  · rcases hS.2 g hu with h9 | h9
    · exact h.roff g hg h9
    · have := (h.row.lt g hg).2
      omega

/-- A page is put behind the made ones. -/
theorem PutS.push {o : Obj} {g cap : Nat} {W2 : World} {id : Int} (h : PutS pb base m kk U0 w0 Z s U nx L tv W)
    (hown : W2.ownsRow Z 3 1 (.slice (some ⟨g, 0, none⟩) (L.length + 1) cap) (L.length + 1) (L.map (Value.int .i64) ++ [.int .i64 id])) (hgr : (W.alloc o).grownBy W2 tv.ownBlock) (hg : tv.ownBlock = some g ∨ g = W.heap.size + 1) :
    PutS pb base m kk U0 w0 Z s U id (L ++ [id]) (.slice (some ⟨g, 0, none⟩) (L.length + 1) cap) ((W2.setCell ⟨w0.heap.size + 4, 0, none⟩ (.slice (some ⟨g, 0, none⟩) (L.length + 1) cap)).setCell ⟨w0.heap.size + 3, 0, none⟩ (.int .i64 id)) ∧
      Fr (fun k => tv.ownBlock = some k ∨ k = w0.heap.size + 3 ∨ k = w0.heap.size + 4) W ((W2.setCell ⟨w0.heap.size + 4, 0, none⟩ (.slice (some ⟨g, 0, none⟩) (L.length + 1) cap)).setCell ⟨w0.heap.size + 3, 0, none⟩ (.int .i64 id)) := by
  have hz := h.zz
  have hb := h.zb
  have hgz : Z ≤ g := (hown.lt g rfl).1
  have hF2 : Fr (fun k => tv.ownBlock = some k) W W2 := Fr.trans ((Fr.refl (fun k => tv.ownBlock = some k) W).alloc o) (Fr.of_grown (S := fun k => tv.ownBlock = some k) hgr (fun i _ e => e)) (fun _ h _ => h)
  have hs2 := hF2.size
  have hgz9 : W.heap.size + 1 ≤ W2.heap.size := by
    have := (Fr.of_grown (S := fun k => tv.ownBlock = some k) hgr (fun i _ e => e)).size
    rw [World.size_alloc] at this
    exact this
  have hrz : ∀ k, tv.ownBlock = some k → Z ≤ k := fun k hk => (h.row.lt k hk).1
  -- the pager and the boxes at W2
  have hpg2 := h.pg.keep hF2 (fun k hu hs => h.roff k hs hu)
  have hc : ∀ i, i < 5 → W2.cell? ⟨w0.heap.size + i, 0, none⟩ = W.cell? ⟨w0.heap.size + i, 0, none⟩ := fun i hi => hF2.cell (p := ⟨w0.heap.size + i, 0, none⟩) (by show w0.heap.size + i < _; omega) (fun hs => by have := hrz _ hs; change Z ≤ w0.heap.size + i at this; omega)
  have hf : ∀ i, i < 5 → W2.frozen? ⟨w0.heap.size + i, 0, none⟩ = W.frozen? ⟨w0.heap.size + i, 0, none⟩ := fun i hi => hF2.frozen (p := ⟨w0.heap.size + i, 0, none⟩) (by show w0.heap.size + i < _; omega) (fun hs => by have := hrz _ hs; change Z ≤ w0.heap.size + i at this; omega)
  have hF3 : Fr (fun k => k = w0.heap.size + 3 ∨ k = w0.heap.size + 4) W2 ((W2.setCell ⟨w0.heap.size + 4, 0, none⟩ (.slice (some ⟨g, 0, none⟩) (L.length + 1) cap)).setCell ⟨w0.heap.size + 3, 0, none⟩ (.int .i64 id)) := ((Fr.refl _ W2).setCell (p := ⟨w0.heap.size + 4, 0, none⟩) (fun _ => .inr rfl) _).setCell (p := ⟨w0.heap.size + 3, 0, none⟩) (fun _ => .inl rfl) _
  have hF4 : Fr (fun k => tv.ownBlock = some k ∨ k = w0.heap.size + 3 ∨ k = w0.heap.size + 4) W ((W2.setCell ⟨w0.heap.size + 4, 0, none⟩ (.slice (some ⟨g, 0, none⟩) (L.length + 1) cap)).setCell ⟨w0.heap.size + 3, 0, none⟩ (.int .i64 id)) := Fr.trans (hF2.mono (fun k _ h => .inl h)) hF3 (fun i h _ => .inr h)
  have hne : ∀ i j : Nat, i ≠ j → w0.heap.size + i ≠ w0.heap.size + j := fun i j hij => by omega
  refine ⟨⟨hpg2.keep hF3 (fun k hu hs => ?_), h.ov, ⟨h.st.1.trans hF4 (fun i hs hi => ?_), h.st.2⟩, h.off, ?_, ?_, ?_, ?_, ?_, ?_, ?_, ?_, ?_, ?_, ?_, hb, ?_⟩, hF4⟩
  · rcases hs with e | e
    · exact h.off k (by omega) (by omega) hu
    · exact h.off k (by omega) (by omega) hu
  · rcases hs with e | e | e
    · have := hrz i e
      omega
    · omega
    · omega
  · rw [set_far _ _ _ _ (by show w0.heap.size + 3 ≠ w0.heap.size; omega), set_far _ _ _ _ (by show w0.heap.size + 4 ≠ w0.heap.size; omega)]
    exact (hc 0 (by omega)).trans h.c2
  · rw [set_far _ _ _ _ (hne 3 1 (by omega)), set_far _ _ _ _ (hne 4 1 (by omega))]
    exact (hc 1 (by omega)).trans h.c4
  · rw [frozen_set, frozen_set]
    exact (hf 1 (by omega)).trans h.f4
  · rw [set_far _ _ _ _ (hne 3 2 (by omega)), set_far _ _ _ _ (hne 4 2 (by omega))]
    exact (hc 2 (by omega)).trans h.c5
  · rw [frozen_set, frozen_set]
    exact (hf 2 (by omega)).trans h.f5
  · exact cell_set_same _ _ _ (.int .i64 nx) (by
      rw [set_far _ _ _ _ (hne 4 3 (by omega))]
      exact (hc 3 (by omega)).trans h.c6)
  · rw [frozen_set, frozen_set]
    exact (hf 3 (by omega)).trans h.f6
  · rw [set_far _ _ _ _ (hne 3 4 (by omega))]
    exact cell_set_same _ _ _ tv ((hc 4 (by omega)).trans h.c7)
  · rw [frozen_set, frozen_set]
    exact (hf 4 (by omega)).trans h.f7
  · have e1 : (L ++ [id]).length = L.length + 1 := by simp
    have e2 : (L ++ [id]).map (Value.int .i64) = L.map (Value.int .i64) ++ [.int .i64 id] := by simp
    rw [e1, e2]
    refine hF3.owns hown (fun k hk => ?_)
    have hk : k = g := by
      have h9 : some g = some k := hk
      injection h9 with h9
      exact h9.symm
    rintro (e | e)
    · omega
    · omega
  · intro k hk hu
    have hk : k = g := by
      have h9 : some g = some k := hk
      injection h9 with h9
      exact h9.symm
    subst hk
    rcases hg with e | e
    · exact h.roff _ e hu
    · have := h.pg.lt _ hu
      omega
  · rw [World.size_setCell, World.size_setCell]
    omega

/-- What Put of the last j pieces leaves. -/
structure PutL (m : Nat) (s0 s : PgS) (v : ByteArray) (j : Nat) (is : List Int) : Prop where
  len : is.length = j
  A : s.A = entOf is ((cutL v).drop (cutN v - j)) ++ s0.A
  room : room m s + j = room m s0
  sp : s.sp.length = s0.sp.length - j
  pages : j ≤ s0.sp.length → s.pages = s0.pages

theorem PutL.zero {s0 : PgS} {v : ByteArray} : PutL m s0 s0 v 0 [] := ⟨rfl, rfl, rfl, rfl, fun _ => rfl⟩
theorem PutL.next {s0 s s' : PgS} {v : ByteArray} {j : Nat} {is : List Int} {id : Int} (h : PutL m s0 s v j is) (hj : j < cutN v) (hA : s'.A = (id, pgv 4 (is.headD 0) (pieceAt v (cutN v - 1 - j))) :: s.A) (hR : Go.Proofs.YtlocadmiomglaaaGreatDoor.room m s' + 1 = Go.Proofs.YtlocadmiomglaaaGreatDoor.room m s) (hp : s.sp ≠ [] → s'.pages = s.pages) (hs : s'.sp.length = s.sp.length - 1) : PutL m s0 s' v (j + 1) (id :: is) := by
  refine ⟨by rw [List.length_cons, h.len], ?_, by have := h.room; omega, by rw [hs, h.sp]; omega, fun hle => ?_⟩
  · have e : (cutL v).drop (cutN v - (j + 1)) = pieceAt v (cutN v - 1 - j) :: (cutL v).drop (cutN v - j) := by
      have hl : cutN v - (j + 1) < (cutL v).length := by rw [cutL_length]; omega
      rw [List.drop_eq_getElem_cons hl]
      have e1 := cut_at v (cutN v - (j + 1)) (by omega)
      rw [List.getD_eq_getElem?_getD, List.getElem?_eq_getElem hl, Option.getD_some] at e1
      rw [e1, show cutN v - (j + 1) + 1 = cutN v - j by omega, show cutN v - (j + 1) = cutN v - 1 - j by omega]
    rw [hA, h.A, e, entOf, List.cons_append]
  · have := h.sp
    rw [hp (fun e => by rw [e] at this; simp at this; omega), h.pages (by omega)]
theorem PutL.keys {s0 s : PgS} {v : ByteArray} {j : Nat} {is : List Int} (h : PutL m s0 s v j is) (hj : j ≤ cutN v) : kys s = is ++ kys s0 := by
  unfold kys
  rw [h.A, List.map_append, entOf_keys (by rw [h.len, List.length_drop, cutL_length]; omega)]
theorem PutL.chain {s0 s : PgS} {v : ByteArray} {is : List Int} (h : PutL m s0 s v (cutN v) is) : Chain s.A is (cutL v) := by
  refine ⟨by rw [h.len, cutL_length], fun x hx => ?_⟩
  rw [h.A, Nat.sub_self, List.drop_zero]
  exact List.mem_append_left _ hx
theorem PutL.head {s0 s : PgS} {v : ByteArray} {j kk : Nat} {is : List Int} (h : PutL m s0 s v j is) (hj : j ≤ cutN v) (hJ : OvJ m kk s) (hm : m ≤ 3000) : 0 ≤ is.headD 0 ∧ is.headD 0 < 4294967296 := by
  cases is with
  | nil => exact ⟨by simp, by simp⟩
  | cons a r =>
    have hk := h.keys hj
    have := hJ.keys a (by rw [hk]; exact List.mem_cons_self)
    have h3 := hJ.nwp
    have h4 := hJ.nwm
    show 0 ≤ a ∧ a < 4294967296
    omega

/-- What the loop of drops leaves when j pages of L are dropped. -/
structure UndoL (m : Nat) (s0 s : PgS) (L : List Int) (j : Nat) : Prop where
  A : ∃ A1, s.A = A1 ++ s0.A ∧ A1.map (·.1) = (L.drop j).reverse
  room : Go.Proofs.YtlocadmiomglaaaGreatDoor.room m s + (L.length - j) = Go.Proofs.YtlocadmiomglaaaGreatDoor.room m s0
theorem UndoL.zero {s0 s : PgS} {v : ByteArray} {j : Nat} {is : List Int} (h : PutL m s0 s v j is) (hj : j ≤ cutN v) : UndoL m s0 s is.reverse 0 := by
  refine ⟨⟨_, h.A, ?_⟩, ?_⟩
  · rw [entOf_keys (by rw [h.len, List.length_drop, cutL_length]; omega), List.drop_zero, List.reverse_reverse]
  · rw [List.length_reverse, h.len]
    exact h.room
theorem UndoL.mem {s0 s : PgS} {L : List Int} {j : Nat} (h : UndoL m s0 s L j) (hj : j < L.length) : L[j] ∈ kys s := by
  obtain ⟨A1, hA, hk⟩ := h.A
  unfold kys
  have h9 : L[j] ∈ (L.drop j).reverse := by
    rw [List.mem_reverse, List.drop_eq_getElem_cons hj]
    exact List.mem_cons_self
  rw [hA, List.map_append, hk]
  exact List.mem_append_left _ h9
theorem UndoL.next {s0 s s' : PgS} {L : List Int} {j kk : Nat} (h : UndoL m s0 s L j) (hj : j < L.length) (hJ : OvJ m kk s) (hA : s'.A = ridA L[j] s.A) (hp : s'.pages = s.pages) (hs : s'.sp.length = s.sp.length + 1) : UndoL m s0 s' L (j + 1) := by
  obtain ⟨A1, hA1, hk⟩ := h.A
  have hnd := hJ.knd
  unfold kys at hnd
  rw [hA1, List.map_append, hk, List.drop_eq_getElem_cons hj, List.reverse_cons] at hnd
  obtain ⟨h1, _, h3⟩ := List.nodup_append.1 hnd
  obtain ⟨h4, _, h5⟩ := List.nodup_append.1 h1
  refine ⟨⟨ridA L[j] A1, ?_, ?_⟩, ?_⟩
  · rw [hA, hA1]
    have e2 : ridA L[j] s0.A = s0.A := ridA_not (fun hin => h3 L[j] (by simp) L[j] hin rfl)
    unfold ridA at e2 ⊢
    rw [List.filter_append, e2]
  · rw [ridA_keys, hk, List.drop_eq_getElem_cons hj, List.reverse_cons]
    unfold rid
    rw [List.filter_append]
    have e3 : (L.drop (j + 1)).reverse.filter (fun x => !decide (x = L[j])) = (L.drop (j + 1)).reverse := List.filter_eq_self.2 (fun x hx => by
      have := h5 x hx L[j] (by simp)
      simpa using this)
    rw [e3]
    simp
  · have := h.room
    unfold Go.Proofs.YtlocadmiomglaaaGreatDoor.room at this ⊢
    rw [hp, hs]
    omega
theorem UndoL.done {s0 s : PgS} {L : List Int} (h : UndoL m s0 s L L.length) : s.A = s0.A ∧ Go.Proofs.YtlocadmiomglaaaGreatDoor.room m s = Go.Proofs.YtlocadmiomglaaaGreatDoor.room m s0 := by
  obtain ⟨A1, hA1, hk⟩ := h.A
  rw [List.drop_length, List.reverse_nil] at hk
  have e : A1 = [] := by
    cases A1 with
    | nil => rfl
    | cons a r => simp at hk
  have := h.room
  exact ⟨by rw [hA1, e, List.nil_append], by omega⟩
end
end Go.Proofs.YtlocadmiomglaaaGreatDoor
