/- The Book of ints by its blocks: made, filled, asked. -/
import Derived.Test.YtedcpckocedcoaaGreatBkB
namespace Go.Proofs.YtedcpckocedcoaaGreat
open Go.RowKit

theorem nil_el (c : Nat) (h : c < 22) : (List.replicate 22 (Value.slice none 0 0))[c]? = some (.slice none 0 0) := by
  rw [List.getElem?_replicate]
  simp [h]

theorem book_new (w : World) (T : TypeId) (V W : Nat → Value) (n : Nat → Nat) (Z : Nat → Nat → Int) :
    BookI (w.alloc (.cells (List.replicate 22 (Value.slice none 0 0)).toArray T)) w.heap.size w.heap.size (.slice none 0 0) (.slice none 0 0) 0 V W n Z := by
  have hb : (w.alloc (.cells (List.replicate 22 (Value.slice none 0 0)).toArray T)).heap[w.heap.size]? = some (.cells (List.replicate 22 (Value.slice none 0 0)).toArray T (0, 0)) := heap_alloc_new w _
  have hc : ∀ c, c < 22 → (w.alloc (.cells (List.replicate 22 (Value.slice none 0 0)).toArray T)).cell? ⟨w.heap.size, c, none⟩ = some (.slice none 0 0) := fun c h => by
    rw [cell_of_row _ _ _ _ _ _ hb]
    have := nil_el c h
    simpa using this
  have hf : ∀ c, (w.alloc (.cells (List.replicate 22 (Value.slice none 0 0)).toArray T)).frozen? ⟨w.heap.size, c, none⟩ = false := fun c => frozen_of_row _ _ _ _ _ hb
  exact ⟨⟨hc 2 (by omega), World.ownsRow_nil _ _ _ _, (fun i hi => by omega), (fun i j g hi => by omega), (by intro h; cases h), (fun i hi => by omega)⟩, hc 3 (by omega), World.ownsRow_nil _ _ _ _, (fun i hi => by omega),
    fun c h1 _ _ => hc c h1, hf 2, hf 3, (by intro h; cases h), (fun g h => by cases h), (fun i hi => by omega)⟩

/-- A Book that holds N lists of ints; its blocks are among F. -/
def BookN (w : World) (bb base N : Nat) (F : Nat → Prop) : Prop := ∃ iv wv V W n Z, BookI w bb base iv wv N V W n Z ∧ (∀ b, bookF bb iv wv N V W b → F b) ∧ (∀ b, F b → b < w.heap.size) ∧ ∀ i, i < N → n i ≤ 10000

/-- Rows of ints that are not the Book's stay; what lies below stays. -/
structure KeepInt (bb B : Nat) (w w' : World) : Prop where
  own : ∀ (b : Nat) (v : Value) (n : Nat) (xs : List Value), w.ownsRow b 3 1 v n xs → v.ownBlock ≠ some bb → w'.ownsRow b 3 1 v n xs
  bel : Below B w w'

section
variable {w w' : World} {bb base N : Nat} {F : Nat → Prop}

theorem BookN.below (h : BookN w bb base N F) (hB : Below w.heap.size w w') : BookN w' bb base N F := by
  obtain ⟨iv, wv, V, W, n, Z, hb, h1, h2, h3⟩ := h
  exact ⟨iv, wv, V, W, n, Z, hb.below hB, h1, fun b hb => Nat.lt_of_lt_of_le (h2 b hb) hB.size, h3⟩
theorem BookN.keep (h : BookN w bb base N F) {S : Nat → Prop} (hF : Fr S w w') (hS : ∀ b, F b → ¬ S b) : BookN w' bb base N F := by
  obtain ⟨iv, wv, V, W, n, Z, hb, h1, h2, h3⟩ := h
  exact ⟨iv, wv, V, W, n, Z, hb.keep hF (fun b hb => hS b (h1 b hb)), h1, fun b hb => Nat.lt_of_lt_of_le (h2 b hb) hF.size, h3⟩
theorem BookN.lt (h : BookN w bb base N F) : ∀ b, F b → b < w.heap.size := by
  obtain ⟨_, _, _, _, _, _, _, _, h2, _⟩ := h
  exact h2
theorem BookN.ptr (h : BookN w bb base N F) : F bb := by
  obtain ⟨_, _, _, _, _, _, _, h1, _, _⟩ := h
  exact h1 _ (.inl (.inl rfl))

theorem BookN.less {base' : Nat} (h : BookN w bb base N F) (hb : base' ≤ base) : BookN w bb base' N F := by
  obtain ⟨iv, wv, V, W, n, Z, h, h1, h2, h3⟩ := h
  exact ⟨iv, wv, V, W, n, Z, ⟨⟨h.bk.c2, owns_down h.bk.ri hb, fun i hi => owns_down (h.bk.kk i hi) hb, h.bk.kd, h.bk.ib, h.bk.kb⟩, h.c3, owns_down h.wr hb, fun i hi => owns_down (h.ww i hi) hb, h.cn, h.f2, h.f3, h.wb, h.iw, h.wk⟩, h1, h2, h3⟩

theorem bookN_new (w : World) (T : TypeId) : BookN (w.alloc (.cells (List.replicate 22 (Value.slice none 0 0)).toArray T)) w.heap.size w.heap.size 0 (fun b => b = w.heap.size) := by
  refine ⟨_, _, fun _ => .slice none 0 0, fun _ => .slice none 0 0, fun _ => 0, fun _ _ => 0, book_new w T _ _ _ _, ?_, fun b hb => by subst hb; simp, fun i hi => by omega⟩
  rintro b ((hb | hb | ⟨i, hi, _⟩) | hb | ⟨i, hi, _⟩)
  · exact hb
  · cases hb
  · omega
  · cases hb
  · omega

/-- One more list; what is written to. -/
theorem bookN_more (h : BookN w bb base N F) (v : Value) (b2 m : Nat) (zs : List Int) (hv : w.ownsRow b2 3 1 v m (rowOf ncells zs)) (hz : zs.length = m) (hm : m ≤ 10000) (hd : ∀ b, v.ownBlock = some b → ¬ F b) (hN : N < 250) (hb2 : base ≤ b2) (hbb : base ≤ bb) :
    Calls Tryz.prog 24 #[.pointer (some ⟨bb, 0, none⟩), v] w fun e w' => e = .returned (.tuple #[]) ∧ BookN w' bb base (N + 1) (fun b => F b ∨ v.ownBlock = some b ∨ (w.heap.size ≤ b ∧ b < w'.heap.size)) ∧ KeepInt bb base w w' ∧ Fr F w w' := by
  obtain ⟨iv, wv, V, W, n, Z, hb, h1, h2, h3⟩ := h
  have hbs : base ≤ w.heap.size := by have := cell_lt hb.bk.c2; show base ≤ w.heap.size; exact Nat.le_trans hbb (Nat.le_of_lt this)
  have hv2 : w.ownsRow base 3 1 v m (rowOf ncells zs) := owns_down hv hb2
  refine (book_ints bb base iv wv N V W n Z w hb v m zs hv2 hz hm (fun b hvb hF => hd b hvb (h1 b hF)) hN hbs).mono ?_
  rintro e w' ⟨rfl, iv', wv', W', hbk, hfr, hsub⟩
  refine ⟨rfl, ⟨iv', wv', _, W', _, _, hbk, fun b hb' => ?_, fun b hb' => ?_, fun i hi => ?_⟩, ⟨fun b u k xs hu hub => ?_, ?_⟩, hfr.mono (fun b _ e => h1 b ?_)⟩
  · rcases hsub b hb' with e | e | e
    · exact .inl (h1 b e)
    · exact .inr (.inl e)
    · exact .inr (.inr ⟨e, hbk.lt b hb'⟩)
  · rcases hb' with e | e | e
    · exact Nat.lt_of_lt_of_le (h2 b e) hfr.size
    · exact Nat.lt_of_lt_of_le (hv.lt b e).2 hfr.size
    · exact e.2
  · by_cases e : i = N
    · simp only [if_pos e]; exact hm
    · simp only [if_neg e]; exact h3 i (by omega)
  · refine hfr.owns hu (fun g hg e => ?_)
    rcases e with e | e | e
    · exact hub (by rw [← e]; exact hg)
    · exact owns_apart hu hb.bk.ri (by decide) hg e
    · exact owns_apart hu hb.wr (by decide) hg e
  · refine hfr.below hbs (fun b e => ?_)
    rcases e with e | e | e
    · rw [e]; exact hbb
    · exact (hb.bk.ri.lt b e).1
    · exact (hb.wr.lt b e).1
  · rcases e with e | e | e
    · exact .inl (.inl e)
    · exact .inl (.inr (.inl e))
    · exact .inr (.inl e)

theorem bookN_add (h : BookN w bb base N F) (v : Value) (b2 m : Nat) (zs : List Int) (hv : w.ownsRow b2 3 1 v m (rowOf ncells zs)) (hz : zs.length = m) (hm : m ≤ 10000) (hd : ∀ b, v.ownBlock = some b → ¬ F b) (hN : N < 250) (hb2 : base ≤ b2) (hbb : base ≤ bb) :
    Calls Tryz.prog 24 #[.pointer (some ⟨bb, 0, none⟩), v] w fun e w' => e = .returned (.tuple #[]) ∧ BookN w' bb base (N + 1) (fun b => F b ∨ v.ownBlock = some b ∨ (w.heap.size ≤ b ∧ b < w'.heap.size)) ∧ KeepInt bb base w w' := by
  refine (bookN_more h v b2 m zs hv hz hm hd hN hb2 hbb).mono ?_
  rintro e w' ⟨e1, e2, e3, _⟩
  exact ⟨e1, e2, e3⟩

theorem bookN_apart (h : BookN w bb base N F) (hN : N ≤ 250) (hbb : base ≤ bb) :
    Calls Tryz.prog 29 #[.pointer (some ⟨bb, 0, none⟩)] w fun e w' => e = .returned (.bool true) ∧ Below base w w' := by
  obtain ⟨iv, wv, V, W, n, Z, hb, h1, h2, h3⟩ := h
  have hbs : base ≤ w.heap.size := Nat.le_trans hbb (Nat.le_of_lt (cell_lt hb.bk.c2))
  exact apart_ints bb base iv wv N V W n Z w hb hN h3 hbs
end

theorem Lent.below {w w' : World} {base : Nat} {v : Value} {zs : List Int} (h : Lent w base v zs) (hB : Below w.heap.size w w') : Lent w' base v zs := by
  obtain ⟨g, cap, e, ho⟩ := h
  exact ⟨g, cap, e, (Fr.of_all (S := fun _ => False) hB).owns ho (fun _ _ h => h)⟩
theorem Lent.keep {w w' : World} {base bb B : Nat} {v : Value} {zs : List Int} (h : Lent w base v zs) (hK : KeepInt bb B w w') (hb : bb < base) : Lent w' base v zs := by
  obtain ⟨g, cap, e, ho⟩ := h
  refine ⟨g, cap, e, hK.own _ _ _ _ ho (fun e => ?_)⟩
  have := (ho.lt bb e).1
  omega
theorem KeepInt.trans {bb B : Nat} {w w1 w2 : World} (h : KeepInt bb B w w1) (k : KeepInt bb B w1 w2) : KeepInt bb B w w2 :=
  ⟨fun b v n xs ho hv => k.own b v n xs (h.own b v n xs ho hv) hv, h.bel.trans k.bel⟩
end Go.Proofs.YtedcpckocedcoaaGreat
