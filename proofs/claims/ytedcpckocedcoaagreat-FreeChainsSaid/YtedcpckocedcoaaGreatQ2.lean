/- The Book with lists of texts and lists of ints: made, filled. -/
import Derived.Test.YtedcpckocedcoaaGreatQtA
import Derived.Test.YtedcpckocedcoaaGreatBkN
namespace Go.Proofs.YtedcpckocedcoaaGreat
open Go.RowKit

def PT (iv wv : Value) (c : Nat) (u : Value) : Prop := (c = 2 ∧ u = iv) ∨ (c = 3 ∧ u = wv) ∨ (4 ≤ c ∧ c < 22 ∧ u = .slice none 0 0)
def PI (it wt : Value) (c : Nat) (u : Value) : Prop := (c = 0 ∧ u = it) ∨ (c = 1 ∧ u = wt) ∨ (4 ≤ c ∧ c < 22 ∧ u = .slice none 0 0)
theorem PT.far {iv wv : Value} : ∀ c u, PT iv wv c u → c ≠ 0 ∧ c ≠ 1 := fun c u h => by rcases h with ⟨h, _⟩ | ⟨h, _⟩ | ⟨h, _⟩ <;> omega
theorem PI.far {iv wv : Value} : ∀ c u, PI iv wv c u → c ≠ 2 ∧ c ≠ 3 := fun c u h => by rcases h with ⟨h, _⟩ | ⟨h, _⟩ | ⟨h, _⟩ <;> omega

structure Book2 (w : World) (bb base : Nat) (it wt : Value) (N : Nat) (V W : Nat → Value) (n : Nat → Nat) (Z : Nat → Nat → ByteArray) (iv wv : Value) (M : Nat) (X Y : Nat → Value) (m : Nat → Nat) (U : Nat → Nat → Int) : Prop where
  t : BookT (PT iv wv) w bb base it wt N V W n Z
  i : BookQ (PI it wt) w bb base iv wv M X Y m U

section
variable {w w' : World} {bb base : Nat} {it wt it' wt' : Value} {N N' : Nat} {V W V' W' : Nat → Value} {n n' : Nat → Nat} {Z Z' : Nat → Nat → ByteArray} {iv wv iv' wv' : Value} {M M' : Nat} {X Y X' Y' : Nat → Value} {m m' : Nat → Nat} {U U' : Nat → Nat → Int} {S : Nat → Prop}

/-- The texts behind a call that changed the ints. -/
theorem t_after (h : BookT (PT iv wv) w bb base it wt N V W n Z) (hi : BookQ (PI it wt) w' bb base iv' wv' M' X' Y' m' U') (hF : Fr S w w') (hS : ∀ b, bookTF bb it wt N V W b → b ≠ bb → ¬ S b) : BookT (PT iv' wv') w' bb base it wt N V W n Z where
  bk := ⟨hi.cn 0 it (.inl ⟨rfl, rfl⟩), hF.owns h.bk.ri (fun g hg => hS g (.inl (.inr (.inl hg))) (fun e => h.bk.ib (by rw [hg, e]))), fun i hi' => hF.owns (h.bk.kk i hi') (fun g hg => hS g (.inl (.inr (.inr ⟨i, hi', hg⟩))) (fun e => h.bk.kb i hi' (by rw [hg, e]))), h.bk.kd, h.bk.ib, h.bk.kb⟩
  c3 := hi.cn 1 wt (.inr (.inl ⟨rfl, rfl⟩))
  wr := hF.owns h.wr (fun g hg => hS g (.inr (.inl hg)) (fun e => h.wb (by rw [hg, e])))
  ww := fun i hi' => hF.owns (h.ww i hi') (fun g hg => hS g (.inr (.inr ⟨i, hi', hg⟩)) (fun e => h.wk i hi' (by rw [hg, e])))
  cn := fun c u hc => by
    rcases hc with ⟨rfl, rfl⟩ | ⟨rfl, rfl⟩ | hc
    · exact hi.bk.c2
    · exact hi.c3
    · exact hi.cn c u (.inr (.inr hc))
  fz := hi.fz
  hP := PT.far
  wb := h.wb
  iw := h.iw
  wk := h.wk
/-- The ints behind a call that changed the texts. -/
theorem i_after (h : BookQ (PI it wt) w bb base iv wv M X Y m U) (ht : BookT (PT iv wv) w' bb base it' wt' N' V' W' n' Z') (hF : Fr S w w') (hS : ∀ b, bookQF bb iv wv M X Y b → b ≠ bb → ¬ S b) : BookQ (PI it' wt') w' bb base iv wv M X Y m U where
  bk := ⟨ht.cn 2 iv (.inl ⟨rfl, rfl⟩), hF.owns h.bk.ri (fun g hg => hS g (.inl (.inr (.inl hg))) (fun e => h.bk.ib (by rw [hg, e]))), fun i hi' => hF.owns (h.bk.kk i hi') (fun g hg => hS g (.inl (.inr (.inr ⟨i, hi', hg⟩))) (fun e => h.bk.kb i hi' (by rw [hg, e]))), h.bk.kd, h.bk.ib, h.bk.kb⟩
  c3 := ht.cn 3 wv (.inr (.inl ⟨rfl, rfl⟩))
  wr := hF.owns h.wr (fun g hg => hS g (.inr (.inl hg)) (fun e => h.wb (by rw [hg, e])))
  ww := fun i hi' => hF.owns (h.ww i hi') (fun g hg => hS g (.inr (.inr ⟨i, hi', hg⟩)) (fun e => h.wk i hi' (by rw [hg, e])))
  cn := fun c u hc => by
    rcases hc with ⟨rfl, rfl⟩ | ⟨rfl, rfl⟩ | hc
    · exact ht.bk.c2
    · exact ht.c3
    · exact ht.cn c u (.inr (.inr hc))
  fz := ht.fz
  hP := PI.far
  wb := h.wb
  iw := h.iw
  wk := h.wk

/-- Rows of texts and rows of ints lie apart. -/
theorem t_far {b : Nat} (h : BookT (PT iv wv) w bb base it wt N V W n Z) (hb : bookTF bb it wt N V W b) (hne : b ≠ bb) {v : Value} {b2 k : Nat} {e : TypeId} {xs : List Value} (hv : w.ownsRow b2 e 1 v k xs) (h1 : 68 ≠ e) (h2 : 9 ≠ e) : v.ownBlock ≠ some b := by
  rcases hb with (hb | hb | ⟨i, hi, hb⟩) | hb | ⟨i, hi, hb⟩
  · exact absurd hb hne
  · exact owns_apart h.bk.ri hv h1 hb
  · exact owns_apart (h.bk.kk i hi) hv h2 hb
  · exact owns_apart h.wr hv h1 hb
  · exact owns_apart (h.ww i hi) hv h2 hb
theorem i_far {b : Nat} (h : BookQ (PI it wt) w bb base iv wv M X Y m U) (hb : bookQF bb iv wv M X Y b) (hne : b ≠ bb) {v : Value} {b2 k : Nat} {e : TypeId} {xs : List Value} (hv : w.ownsRow b2 e 1 v k xs) (h1 : 22 ≠ e) (h2 : 3 ≠ e) : v.ownBlock ≠ some b := by
  rcases hb with (hb | hb | ⟨i, hi, hb⟩) | hb | ⟨i, hi, hb⟩
  · exact absurd hb hne
  · exact owns_apart h.bk.ri hv h1 hb
  · exact owns_apart (h.bk.kk i hi) hv h2 hb
  · exact owns_apart h.wr hv h1 hb
  · exact owns_apart (h.ww i hi) hv h2 hb

theorem Book2.keep (h : Book2 w bb base it wt N V W n Z iv wv M X Y m U) (hF : Fr S w w') (hS : ∀ b, bookTF bb it wt N V W b ∨ bookQF bb iv wv M X Y b → ¬ S b) : Book2 w' bb base it wt N V W n Z iv wv M X Y m U :=
  ⟨h.t.keep hF (fun b hb => hS b (.inl hb)), h.i.keep hF (fun b hb => hS b (.inr hb))⟩
end

/-- A Book that holds N lists of texts and M lists of ints; its blocks are among F. -/
def BookN2 (w : World) (bb base N M : Nat) (F : Nat → Prop) : Prop := ∃ it wt V W n Z iv wv X Y m U, Book2 w bb base it wt N V W n Z iv wv M X Y m U ∧ (∀ b, bookTF bb it wt N V W b ∨ bookQF bb iv wv M X Y b → F b) ∧ (∀ b, F b → b < w.heap.size) ∧ (∀ i, i < N → n i ≤ 10000) ∧ ∀ i, i < M → m i ≤ 10000

theorem bookN2_new (w : World) (T : TypeId) : BookN2 (w.alloc (.cells (List.replicate 22 (Value.slice none 0 0)).toArray T)) w.heap.size w.heap.size 0 0 (fun b => b = w.heap.size) := by
  have hb : (w.alloc (.cells (List.replicate 22 (Value.slice none 0 0)).toArray T)).heap[w.heap.size]? = some (.cells (List.replicate 22 (Value.slice none 0 0)).toArray T (0, 0)) := heap_alloc_new w _
  have hc : ∀ c, c < 22 → (w.alloc (.cells (List.replicate 22 (Value.slice none 0 0)).toArray T)).cell? ⟨w.heap.size, c, none⟩ = some (.slice none 0 0) := fun c h => by
    rw [cell_of_row _ _ _ _ _ _ hb]
    have := nil_el c h
    simpa using this
  have hf : ∀ c, (w.alloc (.cells (List.replicate 22 (Value.slice none 0 0)).toArray T)).frozen? ⟨w.heap.size, c, none⟩ = false := fun c => frozen_of_row _ _ _ _ _ hb
  refine ⟨.slice none 0 0, .slice none 0 0, fun _ => .slice none 0 0, fun _ => .slice none 0 0, fun _ => 0, fun _ _ => ByteArray.empty, .slice none 0 0, .slice none 0 0, fun _ => .slice none 0 0, fun _ => .slice none 0 0, fun _ => 0, fun _ _ => 0,
    ⟨⟨⟨hc 0 (by omega), World.ownsRow_nil _ _ _ _, (fun i hi => by omega), (fun i j g hi => by omega), (by intro h; cases h), (fun i hi => by omega)⟩, hc 1 (by omega), World.ownsRow_nil _ _ _ _, (fun i hi => by omega), (fun c u h => by rcases h with ⟨rfl, rfl⟩ | ⟨rfl, rfl⟩ | ⟨_, h, rfl⟩ <;> exact hc _ (by omega)), hf, PT.far, (by intro h; cases h), (fun g h => by cases h), (fun i hi => by omega)⟩,
     ⟨⟨hc 2 (by omega), World.ownsRow_nil _ _ _ _, (fun i hi => by omega), (fun i j g hi => by omega), (by intro h; cases h), (fun i hi => by omega)⟩, hc 3 (by omega), World.ownsRow_nil _ _ _ _, (fun i hi => by omega), (fun c u h => by rcases h with ⟨rfl, rfl⟩ | ⟨rfl, rfl⟩ | ⟨_, h, rfl⟩ <;> exact hc _ (by omega)), hf, PI.far, (by intro h; cases h), (fun g h => by cases h), (fun i hi => by omega)⟩⟩, ?_, fun b hb => by subst hb; simp, fun i hi => by omega, fun i hi => by omega⟩
  rintro b (((hb | hb | ⟨i, hi, _⟩) | hb | ⟨i, hi, _⟩) | ((hb | hb | ⟨i, hi, _⟩) | hb | ⟨i, hi, _⟩))
  all_goals first
    | exact hb
    | cases hb
    | omega

section
variable {w w' : World} {bb base N M : Nat} {F : Nat → Prop}

theorem BookN2.keep (h : BookN2 w bb base N M F) {S : Nat → Prop} (hF : Fr S w w') (hS : ∀ b, F b → ¬ S b) : BookN2 w' bb base N M F := by
  obtain ⟨it, wt, V, W, n, Z, iv, wv, X, Y, m, U, hb, h1, h2, h3, h4⟩ := h
  exact ⟨it, wt, V, W, n, Z, iv, wv, X, Y, m, U, hb.keep hF (fun b hb => hS b (h1 b hb)), h1, fun b hb => Nat.lt_of_lt_of_le (h2 b hb) hF.size, h3, h4⟩
theorem BookN2.below (h : BookN2 w bb base N M F) (hB : Below w.heap.size w w') : BookN2 w' bb base N M F := h.keep (S := fun _ => False) (Fr.of_all hB) (fun _ _ h => h)
theorem BookN2.lt (h : BookN2 w bb base N M F) : ∀ b, F b → b < w.heap.size := by
  obtain ⟨_, _, _, _, _, _, _, _, _, _, _, _, _, _, h2, _⟩ := h
  exact h2
theorem BookN2.ptr (h : BookN2 w bb base N M F) : F bb := by
  obtain ⟨_, _, _, _, _, _, _, _, _, _, _, _, _, h1, _⟩ := h
  exact h1 _ (.inl (.inl (.inl rfl)))

/-- One more list of ints. -/
theorem bookN2_ints (h : BookN2 w bb base N M F) (v : Value) (b2 k : Nat) (zs : List Int) (hv : w.ownsRow b2 3 1 v k (rowOf ncells zs)) (hz : zs.length = k) (hk : k ≤ 10000) (hd : ∀ b, v.ownBlock = some b → ¬ F b) (hM : M < 250) (hb2 : base ≤ b2) (hbb : base ≤ bb) :
    Calls Tryz.prog 24 #[.pointer (some ⟨bb, 0, none⟩), v] w fun e w' => e = .returned (.tuple #[]) ∧ BookN2 w' bb base N (M + 1) (fun b => F b ∨ v.ownBlock = some b ∨ (w.heap.size ≤ b ∧ b < w'.heap.size)) ∧ Fr F w w' ∧ Below base w w' ∧ ∀ (t : Value) (b3 j : Nat) (xs : List Value), w.ownsRow b3 9 1 t j xs → t.ownBlock ≠ some bb → w'.ownsRow b3 9 1 t j xs := by
  obtain ⟨it, wt, V, W, n, Z, iv, wv, X, Y, m, U, hb, h1, h2, h3, h4⟩ := h
  have hbs : base ≤ w.heap.size := by have : bb < w.heap.size := cell_lt hb.i.bk.c2; omega
  have hv2 : w.ownsRow base 3 1 v k (rowOf ncells zs) := owns_down hv hb2
  refine (book_intsQ bb base iv wv M X Y m U w hb.i v k zs hv2 hz hk (fun b hvb hF => hd b hvb (h1 b (.inr hF))) hM hbs).mono ?_
  rintro e w' ⟨rfl, iv', wv', Y', hbk, hfr, hsub⟩
  have hap : ∀ b, bookTF bb it wt N V W b → b ≠ bb → ¬ addQF bb iv wv b := fun b hb' hne e => by
    rcases e with e | e | e
    · exact hne e
    · exact t_far hb.t hb' hne hb.i.bk.ri (by decide) (by decide) e
    · exact t_far hb.t hb' hne hb.i.wr (by decide) (by decide) e
  have hFF : Fr F w w' := hfr.mono (fun b _ e => h1 b (by
    rcases e with e | e | e
    · exact .inr (.inl (.inl e))
    · exact .inr (.inl (.inr (.inl e)))
    · exact .inr (.inr (.inl e))))
  refine ⟨rfl, ⟨it, wt, V, W, n, Z, iv', wv', _, Y', _, _, ⟨t_after hb.t hbk hfr hap, hbk⟩, fun b hb' => ?_, fun b hb' => ?_, h3, fun i hi => ?_⟩, hFF, ?_, fun t b3 j xs ht hne => hfr.owns ht (fun g hg e => ?_)⟩
  · rcases hb' with hb' | hb'
    · exact .inl (h1 b (.inl hb'))
    · rcases hsub b hb' with e | e | e
      · exact .inl (h1 b (.inr e))
      · exact .inr (.inl e)
      · exact .inr (.inr ⟨e, hbk.lt b hb'⟩)
  · rcases hb' with e | e | e
    · exact Nat.lt_of_lt_of_le (h2 b e) hfr.size
    · exact Nat.lt_of_lt_of_le (hv.lt b e).2 hfr.size
    · exact e.2
  · by_cases e : i = M
    · simp only [if_pos e]; exact hk
    · simp only [if_neg e]; exact h4 i (by omega)
  · refine hfr.below hbs (fun b e => ?_)
    rcases e with e | e | e
    · rw [e]; exact hbb
    · exact (hb.i.bk.ri.lt b e).1
    · exact (hb.i.wr.lt b e).1
  · rcases e with e | e | e
    · exact hne (by rw [hg, e])
    · exact owns_apart hb.i.bk.ri ht (by decide) e hg
    · exact owns_apart hb.i.wr ht (by decide) e hg
/-- One more list of texts. -/
theorem bookN2_texts (h : BookN2 w bb base N M F) (v : Value) (b2 k : Nat) (zs : List ByteArray) (hv : w.ownsRow b2 9 1 v k (rowOf bcells zs)) (hz : zs.length = k) (hk : k ≤ 10000) (hd : ∀ b, v.ownBlock = some b → ¬ F b) (hN : N < 250) (hb2 : base ≤ b2) (hbb : base ≤ bb) :
    Calls Tryz.prog 38 #[.pointer (some ⟨bb, 0, none⟩), v] w fun e w' => e = .returned (.tuple #[]) ∧ BookN2 w' bb base (N + 1) M (fun b => F b ∨ v.ownBlock = some b ∨ (w.heap.size ≤ b ∧ b < w'.heap.size)) ∧ Fr F w w' ∧ Below base w w' := by
  obtain ⟨it, wt, V, W, n, Z, iv, wv, X, Y, m, U, hb, h1, h2, h3, h4⟩ := h
  have hbs : base ≤ w.heap.size := by have : bb < w.heap.size := cell_lt hb.i.bk.c2; omega
  have hv2 : w.ownsRow base 9 1 v k (rowOf bcells zs) := owns_down hv hb2
  refine (book_texts bb base it wt N V W n Z w hb.t v k zs hv2 hz hk (fun b hvb hF => hd b hvb (h1 b (.inl hF))) hN hbs).mono ?_
  rintro e w' ⟨rfl, it', wt', W', hbk, hfr, hsub⟩
  have hap : ∀ b, bookQF bb iv wv M X Y b → b ≠ bb → ¬ addTF bb it wt b := fun b hb' hne e => by
    rcases e with e | e | e
    · exact hne e
    · exact i_far hb.i hb' hne hb.t.bk.ri (by decide) (by decide) e
    · exact i_far hb.i hb' hne hb.t.wr (by decide) (by decide) e
  have hFF : Fr F w w' := hfr.mono (fun b _ e => h1 b (by
    rcases e with e | e | e
    · exact .inl (.inl (.inl e))
    · exact .inl (.inl (.inr (.inl e)))
    · exact .inl (.inr (.inl e))))
  refine ⟨rfl, ⟨it', wt', _, W', _, _, iv, wv, X, Y, m, U, ⟨hbk, i_after hb.i hbk hfr hap⟩, fun b hb' => ?_, fun b hb' => ?_, fun i hi => ?_, h4⟩, hFF, ?_⟩
  · rcases hb' with hb' | hb'
    · rcases hsub b hb' with e | e | e
      · exact .inl (h1 b (.inl e))
      · exact .inr (.inl e)
      · exact .inr (.inr ⟨e, hbk.lt b hb'⟩)
    · exact .inl (h1 b (.inr hb'))
  · rcases hb' with e | e | e
    · exact Nat.lt_of_lt_of_le (h2 b e) hfr.size
    · exact Nat.lt_of_lt_of_le (hv.lt b e).2 hfr.size
    · exact e.2
  · by_cases e : i = N
    · simp only [if_pos e]; exact hk
    · simp only [if_neg e]; exact h3 i (by omega)
  · refine hfr.below hbs (fun b e => ?_)
    rcases e with e | e | e
    · rw [e]; exact hbb
    · exact (hb.t.bk.ri.lt b e).1
    · exact (hb.t.wr.lt b e).1
end
end Go.Proofs.YtedcpckocedcoaaGreat
