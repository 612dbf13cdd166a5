/- arboretumlaw7.PagerKeeps: what its calls keep. -/
import Derived.Test.YtoagbcbkaloacaaGreatDoorGKeepL
import Derived.Test.YtoagbcbkaloacaaGreatDoorROpenR
import Derived.Test.YtoagbcbkaloacaaGreatDoorPBackL
import Derived.Laws.StructEq
namespace Go.Proofs.YtoagbcbkaloacaaGreatDoor
open Go.RowKit Go.Maps Go.Conc

def oldB : ByteArray := ⟨#[111, 108, 100]⟩
def oldS (j : Nat) : ByteArray := sealS j 0 2 oldB
theorem oldB_size : oldB.size ≤ 240 := by decide
theorem old_size (j : Nat) : (oldS j).size = 256 := sealS_size _ _ _ _ oldB_size
theorem old_open (j : Nat) (hj : j < 2 ^ 32) (w : World) : Calls Tryz.prog 30 #[.int .i64 j, .string (oldS j)] w fun e w' => e = .returned (.tuple #[pgv 2 0 oldB, .int .i64 0]) ∧ Below w.heap.size w w' := by
  have e := ref_open_long j (oldS j) w (old_size j)
  unfold openV at e
  rw [if_pos (show unfixN (oldS j) 252 4 = crcS ((oldS j).extract 0 252) from seal_sum oldB_size), if_pos (show formOK j (oldS j) = true by unfold oldS; rw [seal_form hj (by omega) (by omega) oldB_size]; simp)] at e
  unfold oldS at e
  rw [seal_kind (by omega), seal_next (by omega), seal_len oldB_size, seal_body oldB_size] at e
  exact e

set_option maxRecDepth 100000 in
theorem page_neq (k n : Int) (b : ByteArray) (w : World) : (binOp .neq 23 (pgv k n b) (pgv k n b)).run Tryz.prog w = .ok (.bool false) w := by
  have hS : Tryz.prog.underlying 23 = some (.struct (Tryz.prog.fieldsOf 23)) := by kernel_rfl
  have hp : Tryz.prog.stoodInHeld 23 = false := by kernel_rfl
  have u3 := Tryz.underlying3
  have a3 := Tryz.isAgg3
  have z3 := Tryz.sizeOf3
  have u9 := Tryz.underlying9
  have a9 := Tryz.isAgg9
  have z9 := Tryz.sizeOf9
  have hE : ∀ d, (Op.equalIn (d + 1 + 1) 23 (pgv k n b) (pgv k n b)).run Tryz.prog w = .ok true w := fun d => by
    unfold pgv
    rw [run_equalIn_agg w (d + 1) 23 _ _ hS hp]
    simp only [Program.fieldsOf, Tryz.underlying23]
    go_simp
  unfold pgv at *
  rw [run_neq_struct, show (10000 : Nat) = 9998 + 1 + 1 from rfl, hE]
  rfl

/-- The list of free pages lies as it lay. -/
def WasI (p : Option Addr) (fs : List Int) (U : Nat → Prop) (w : World) : Prop := RdI w w.heap.size p fs.length fs ∧ ∀ b o, p = some ⟨b, o, none⟩ → 0 < fs.length → ¬ U b
theorem WasI.step {p : Option Addr} {fs : List Int} {U U' : Nat → Prop} {w w' : World} (h : WasI p fs U w) (hS : Step U U' w w') : WasI p fs U' w' := by
  obtain ⟨⟨h1, h2⟩, h3⟩ := h
  refine ⟨⟨h1, fun hn => ?_⟩, fun b o e hn hU => ?_⟩
  · obtain ⟨b, o, e, hb, hc⟩ := h2 hn
    exact ⟨b, o, e, Nat.lt_of_lt_of_le hb hS.1.size, fun k hk => (hS.1.cell (p := ⟨b, o + k, none⟩) hb (h3 b o e hn)).trans (hc k hk)⟩
  · obtain ⟨b', o', e', hb, _⟩ := h2 hn
    have ee := e.symm.trans e'
    injection ee with ee
    injection ee with ee _ _
    subst ee
    rcases hS.2 b hU with h | h
    · exact h3 b o e hn h
    · omega

/-- Ahead of the pager: what was written, what is free. -/
def OldI (db fb base n i m : Nat) (l0 : List Int) (w0 wr : World) : Prop :=
  ∃ sy nw wt l Fd Ff, Dv db db 60 true false 0 sy nw wt Fd wr ∧ Fe fb fb l [] 0 (.map []) Ff wr ∧ (∀ k, Fd k → ¬ Ff k) ∧ nw.length = n ∧ wt.length = m ∧ l.Perm l0 ∧ (∀ j : Nat, 2 ≤ j → j < i → nw.getD j default = oldS j) ∧ base ≤ db ∧ base ≤ fb ∧ Below base w0 wr

section
variable {db fb base n i m : Nat} {l0 : List Int} {w0 wr w' : World}

theorem old_new {e : Ending} (h : BaseR 60 n w0 e wr) : ∃ db rb fb rf, e = .returned (.tuple #[.pointer (some ⟨db, 0, none⟩), .pointer (some ⟨rb, 0, none⟩), .pointer (some ⟨fb, 0, none⟩), .pointer (some ⟨rf, 0, none⟩), .bool true]) ∧ OldI db fb w0.heap.size n 2 0 [] w0 wr := by
  obtain ⟨db, rb, fb, rf, Fd, Ff, he, hD, hF, hap, h1, h2, hb⟩ := h
  exact ⟨db, rb, fb, rf, he, _, _, _, _, _, _, hD, hF, hap, by simp, rfl, .refl _, (fun j h1 h2 => by omega), h1, h2, hb⟩

theorem OldI.below (h : OldI db fb base n i m l0 w0 wr) (hb : Below wr.heap.size wr w') : OldI db fb base n i m l0 w0 w' := by
  obtain ⟨sy, nw, wt, l, Fd, Ff, hD, hF, h3, h4, h5, h6, h7, h8, h9, h10⟩ := h
  have hfr := Fr.of_all (S := fun _ => False) hb
  exact ⟨sy, nw, wt, l, Fd, Ff, hD.keep hfr (fun _ _ h => h), hF.keep hfr (fun _ _ h => h), h3, h4, h5, h6, h7, h8, h9, h10.trans (hb.mono (Nat.le_trans h8 (Nat.le_of_lt (hD.lt db hD.here))))⟩

theorem old_write (h : OldI db fb base n i m l0 w0 wr) (h2 : 2 ≤ i) (hi : i < n) (hm : m < 1000) : Calls Tryz.prog 23 #[.pointer (some ⟨db, 0, none⟩), .int .i64 (i : Int), .string (oldS i)] wr fun e w' => e = .returned (.int .i64 0) ∧ OldI db fb base n (i + 1) (m + 1) l0 w0 w' := by
  obtain ⟨sy, nw, wt, l, Fd, Ff, hD, hF, h3, h4, h5, h6, h7, h8, h9, h10⟩ := h
  refine (dv_write i (oldS i) hD (by omega) (old_size i) (by omega) (by omega)).mono ?_
  rintro e w' ⟨he, F', hD', hS⟩
  have e1 : opFl false 0 = false := by simp [opFl]
  have e2 : opLf false 0 = 0 := by simp [opLf]
  rw [e1, e2] at hD'
  rw [e1] at he
  refine ⟨he, sy, _, _, l, F', Ff, hD', hF.keep hS.1 (fun k hk hd => h3 k hd hk), fun k hk hf => ?_, by rw [List.length_set]; exact h4, by simp [h5], h6, fun j hj1 hj2 => ?_, h8, h9, hD.below h8 h10 hS.1⟩
  · rcases hS.2 k hk with h | h
    · exact h3 k h hf
    · have := hF.lt k hf
      omega
  · by_cases hji : j = i
    · subst hji
      rw [List.getD_eq_getElem?_getD, List.getElem?_set_self (by omega)]
      rfl
    · rw [List.getD_eq_getElem?_getD, List.getElem?_set_ne (Ne.symm hji), ← List.getD_eq_getElem?_getD]
      exact h7 j hj1 (by omega)

theorem old_sync (h : OldI db fb base n i m l0 w0 wr) : Calls Tryz.prog 24 #[.pointer (some ⟨db, 0, none⟩)] wr fun e w' => e = .returned (.int .i64 0) ∧ OldI db fb base n i 0 l0 w0 w' := by
  obtain ⟨sy, nw, wt, l, Fd, Ff, hD, hF, h3, h4, h5, h6, h7, h8, h9, h10⟩ := h
  refine (dv_sync hD).mono ?_
  rintro e w' ⟨he, F', hD', hS⟩
  refine ⟨he, _, _, _, l, F', Ff, hD', hF.keep hS.1 (fun k hk hd => h3 k hd hk), fun k hk hf => ?_, h4, rfl, h6, h7, h8, h9, hD.below h8 h10 hS.1⟩
  rcases hS.2 k hk with h | h
  · exact h3 k h hf
  · have := hF.lt k hf
    omega

/-- The pager, and the list of what was free. -/
def KeepI (pb db base n : Nat) (p : Option Addr) (fs : List Int) (k : Nat) (w0 wr : World) : Prop :=
  ∃ s U, KeepJ fs oldS n k s ∧ Pg pb base s U wr ∧ s.db = db ∧ WasI p fs U wr ∧ Below base w0 wr

/-- .. behind Back. -/
def BackI (db fb base n : Nat) (p : Option Addr) (fs : List Int) (w0 wr : World) : Prop :=
  ∃ sy nw l Fd Ff, Dv db db 60 true false 0 sy nw [] Fd wr ∧ Fe fb fb l [] 0 (.map []) Ff wr ∧ (∀ k, Fd k → ¬ Ff k) ∧ nw.length = n ∧ l.Perm fs ∧ (∀ j : Nat, 2 ≤ j → j < n → nw.getD j default = oldS j) ∧ base ≤ db ∧ base ≤ fb ∧ Below base w0 wr ∧ WasI p fs (fun k => Fd k ∨ Ff k) wr

theorem old_back {w3 : World} {p : Option Addr} {len c : Nat} {fs : List Int} (h : OldI db fb base n n 0 [] w0 w3) (hb : Below w3.heap.size w3 wr) (ho : wr.ownsRow w3.heap.size 3 1 (.slice p len c) len (rowOf ncells fs)) (hl : fs.length = len) (hn : len ≤ 1000) :
    Calls Tryz.prog 25 #[.pointer (some ⟨fb, 0, none⟩), .slice p len c] wr fun e w' => e = .returned (.tuple #[]) ∧ BackI db fb base n p fs w0 w' := by
  have hK := h.below hb
  obtain ⟨sy, nw, wt, l, Fd, Ff, hD, hF, h3, h4, h5, h6, h7, h8, h9, h10⟩ := h
  have hfr := Fr.of_all (S := fun _ => False) hb
  have hD1 := hD.keep hfr (fun _ _ h => h)
  have hF1 := hF.keep hfr (fun _ _ h => h)
  have h11 := h10.trans (hb.mono (Nat.le_trans h8 (Nat.le_of_lt (hD.lt db hD.here))))
  have hge : ∀ b o, p = some ⟨b, o, none⟩ → 0 < len → w3.heap.size ≤ b := fun b o e h0 => by
    subst e
    exact (ho.lt b rfl).1
  have hr := RdI.of_own ho hl
  obtain rfl : wt = [] := List.eq_nil_of_length_eq_zero h5
  obtain rfl : l = [] := List.perm_nil.1 h6
  refine (fe_back p len c fs hF1 hr (fun b o e h0 hb => by have := hge b o e h0; have := hF.lt b hb; omega) (by show 0 + len < 1000000; omega)).mono ?_
  rintro e w' ⟨he, l', F', hF', hpm, hS⟩
  have hS2 : Step (fun k => Fd k ∨ Ff k) (fun k => Fd k ∨ F' k) wr w' := ⟨hS.1.mono (fun _ _ h => .inr h), fun k hk => by
    rcases hk with h | h
    · exact .inl (.inl h)
    · exact (hS.2 k h).imp .inr id⟩
  have hw : WasI p fs (fun k => Fd k ∨ Ff k) wr := by
    refine ⟨by rw [hl]; exact hr, fun b o e h0 hU => ?_⟩
    rw [hl] at h0
    have := hge b o e h0
    rcases hU with h | h
    · have := hD.lt b h
      omega
    · have := hF.lt b h
      omega
  refine ⟨he, sy, nw, l', Fd, F', hD1.keep hS.1 (fun k hk hf => h3 k hk hf), hF', fun k hk hf => ?_, h4, by simpa using hpm, h7, h8, h9, h11.trans (hS.1.below (Nat.le_trans h8 (Nat.le_of_lt (hD1.lt db hD1.here))) (fun k hk => Nat.le_trans h9 (hF1.ge k hk))), hw.step hS2⟩
  rcases hS.2 k hf with h | h
  · exact h3 k hk h
  · have := hD1.lt k hk
    omega

theorem back_pager {p : Option Addr} {fs : List Int} (h : BackI db fb base n p fs w0 wr) (h2 : 2 ≤ n) (h60 : n ≤ 60) (hx : ∀ x ∈ fs, 2 ≤ x ∧ x < (n : Int)) (hf : fs.length ≤ 1000) :
    Calls Tryz.prog 9 #[.pointer (some ⟨db, 0, none⟩), .pointer (some ⟨fb, 0, none⟩), .int .i64 n, .int .i64 5] wr fun e w' => ∃ pb, e = .returned (.tuple #[.pointer (some ⟨pb, 0, none⟩), .int .i64 0]) ∧ KeepI pb db base n p fs 0 w0 w' := by
  obtain ⟨sy, nw, l, Fd, Ff, hD, hF, h3, h4, h6, h7, h8, h9, h10, hw⟩ := h
  refine (pg_new (base := base) n 5 hD hF h3 (fun k hk => Nat.le_trans h8 (hD.ge k hk)) (fun k hk => Nat.le_trans h9 (hF.ge k hk)) (Nat.le_trans h8 (Nat.le_of_lt (hD.lt db hD.here))) h2 (by omega) (by omega) (fun x hx' => hx x (h6.mem_iff.1 (by simpa [pagesOf] using hx'))) (by rw [h6.length_eq]; simp; omega)).mono ?_
  rintro e w' ⟨pb, bm, bd, bw, sb, sbase, U, he, hP, hU, hb, _⟩
  have hS : Step (fun k => Fd k ∨ Ff k) U wr w' := ⟨Fr.of_all hb, fun k hk => by
    rcases hU k hk with h | h | h
    · exact .inl (.inl h)
    · exact .inl (.inr h)
    · exact .inr h⟩
  refine ⟨pb, he, _, U, ⟨rfl, rfl, Nat.le_refl _, by show n ≤ nw.length; omega, by show (nw.length : Int) ≤ 60; omega, rfl, rfl, fun x hx' => h6.mem_iff.1 hx', (fun x hx' => by cases hx'), (fun x hx' => by cases hx'), (fun x hx' => by cases hx'), h7, Nat.le_refl _, Nat.le_refl _, Nat.le_refl _, by show l.length ≤ fs.length + 0; rw [h6.length_eq]; omega, Nat.le_refl _⟩, hP, rfl, hw.step hS, h10.trans (hb.mono (Nat.le_trans h8 (Nat.le_of_lt (hD.lt db hD.here))))⟩

section
variable {pb k : Nat} {p : Option Addr} {fs : List Int}

theorem KeepI.more (h : KeepI pb db base n p fs k w0 wr) : KeepI pb db base n p fs (k + 1) w0 wr := by
  obtain ⟨s, U, hJ, h⟩ := h
  exact ⟨s, U, hJ.more, h⟩
theorem KeepI.bel (h : KeepI pb db base n p fs k w0 wr) : Below base w0 wr := by
  obtain ⟨s, U, hJ, hP, hd, hw, hB⟩ := h
  exact hB

/-- .. and a page that was made. -/
def KeepM (pb db base n : Nat) (p : Option Addr) (fs : List Int) (k : Nat) (x kk nn : Int) (b : ByteArray) (w0 wr : World) : Prop :=
  ∃ s U, KeepJ fs oldS n k s ∧ Pg pb base s U wr ∧ s.db = db ∧ WasI p fs U wr ∧ Below base w0 wr ∧ 2 ≤ x ∧ x < (s.pages : Int) ∧ x ≤ 60 ∧ x ∈ s.A.map (·.1) ∧ (∀ v, (x, v) ∈ s.A → v = pgv kk nn b)

theorem KeepM.toI {x kk nn : Int} {b : ByteArray} (h : KeepM pb db base n p fs k x kk nn b w0 wr) : KeepI pb db base n p fs k w0 wr := by
  obtain ⟨s, U, hJ, hP, hd, hw, hB, _⟩ := h
  exact ⟨s, U, hJ, hP, hd, hw, hB⟩
theorem Pg.bsz (s : PgS) {U : Nat → Prop} (h : Pg pb base s U wr) : base ≤ wr.heap.size := by
  obtain ⟨Fs, h, _⟩ := h
  exact h.bsz
theorem KeepM.below {x kk nn : Int} {b : ByteArray} (h : KeepM pb db base n p fs k x kk nn b w0 wr) (hb : Below wr.heap.size wr w') : KeepM pb db base n p fs k x kk nn b w0 w' := by
  obtain ⟨s, U, hJ, hP, hd, hw, hB, h1⟩ := h
  exact ⟨s, U, hJ, hP.below hb, hd, hw.step (Step.still hb), hB.trans (hb.mono (hP.bsz)), h1⟩

theorem keep_make (kk nn : Int) (b : ByteArray) (h : KeepI pb db base n p fs k w0 wr) (hx : ∀ x ∈ fs, 2 ≤ x ∧ x < (n : Int)) (h2 : 2 ≤ n) (hb : b.size ≤ 1000000) (hk : k ≤ 1000) :
    Calls Tryz.prog 10 #[.pointer (some ⟨pb, 0, none⟩), .agg #[.int .i64 kk, .int .i64 nn, .string b]] wr fun e w' => (∃ c, c ≠ 0 ∧ e = .returned (.tuple #[.int .i64 0, .int .i64 c]) ∧ KeepI pb db base n p fs (k + 1) w0 w') ∨ (∃ x, e = .returned (.tuple #[.int .i64 x, .int .i64 0]) ∧ (x < (n : Int) → x ∈ fs) ∧ 2 ≤ x ∧ x ≤ 60 ∧ KeepM pb db base n p fs (k + 1) x kk nn b w0 w') := by
  obtain ⟨s, U, hJ, hP, hd, hw, hB⟩ := h
  have hbd := hJ.next hx h2
  have hnm := hJ.nm
  refine (pg_make kk nn b hP (by rw [hJ.most]; exact hJ.nw2) (by rw [hJ.most]; omega) hJ.nw1 (int_wf (by omega) (by omega)) hb (by omega)).mono ?_
  rintro e w' ⟨s', U', hM, hP', hS'⟩
  obtain ⟨hJ', hc⟩ := hJ.make hx h2 hM
  have hdb : s'.db = db := by rw [hM.same2.1, hd]
  rcases hc with ⟨c, hc, he⟩ | ⟨he, hpg, hin, hv⟩
  · exact .inl ⟨c, hc, he, s', U', hJ', hP', hdb, hw.step hS', hP.bel hS' hB⟩
  · exact .inr ⟨_, he, hbd.2.2, hbd.1, hbd.2.1, s', U', hJ', hP', hdb, hw.step hS', hP.bel hS' hB, hbd.1, hpg, hbd.2.1, hin, hv⟩

theorem keep_read {x kk nn : Int} {b : ByteArray} (h : KeepM pb db base n p fs k x kk nn b w0 wr) :
    Calls Tryz.prog 26 #[.pointer (some ⟨pb, 0, none⟩), .int .i64 x] wr fun e w' => e = .returned (.tuple #[pgv kk nn b, .int .i64 0]) ∧ Below wr.heap.size wr w' := by
  obtain ⟨s, U, hJ, hP, hd, hw, hB, h1, h2, h3, h4, h5⟩ := h
  exact pg_read_made x kk nn b hP (int_wf (by omega) (by omega)) h1 h2 h4 h5
theorem keep_own {x kk nn : Int} {b : ByteArray} (h : KeepM pb db base n p fs k x kk nn b w0 wr) :
    Calls Tryz.prog 27 #[.pointer (some ⟨pb, 0, none⟩), .int .i64 x] wr fun e w' => e = .returned (.bool true) ∧ Below wr.heap.size wr w' := by
  obtain ⟨s, U, hJ, hP, hd, hw, hB, h1, h2, h3, h4, h5⟩ := h
  have e := pg_own x hP hJ.sla.all (int_wf (by omega) (by omega))
  rw [decide_eq_true h4] at e
  exact e
theorem keep_in (x : Int) {c : Nat} (h : KeepI pb db base n p fs k w0 wr) (hf : fs.length ≤ 1000) :
    Calls Tryz.prog 15 #[.slice p fs.length c, .int .i64 x] wr fun e w' => e = .returned (.bool (decide (x ∈ fs))) ∧ w' = wr := by
  obtain ⟨s, U, hJ, hP, hd, hw, hB⟩ := h
  exact in_any p fs.length c _ fs x wr hw.1 (by omega)
theorem keep_drop (id : Int) (h : KeepI pb db base n p fs k w0 wr) (hid : (Lit.int .i64 id).wf = true) (hl0 : fs.length ≤ 1000) (hk : k ≤ 1000) :
    Calls Tryz.prog 13 #[.pointer (some ⟨pb, 0, none⟩), .int .i64 id] wr fun e w' => (∃ y, e = .returned (.int .i64 y)) ∧ KeepI pb db base n p fs (k + 1) w0 w' := by
  obtain ⟨s, U, hJ, hP, hd, hw, hB⟩ := h
  have hnm := hJ.nm
  have hll := hJ.ll
  have hsl := hJ.sl
  refine (pg_drop_any id hP hid hJ.nw1 hJ.sla.all (by omega) (by omega) (by omega)).mono ?_
  rintro e w' ⟨he, s', U', hD, hP', hS'⟩
  exact ⟨he, s', U', hJ.drop hD, hP', by rw [hD.same2.1, hd], hw.step hS', hP.bel hS' hB⟩

/-- Behind Flush. -/
def FlushI (pb db base n : Nat) (p : Option Addr) (fs : List Int) (w0 wr : World) : Prop :=
  ∃ s U, Pg pb base s U wr ∧ s.db = db ∧ n ≤ s.nw.length ∧ (∀ j : Nat, 2 ≤ j → j < n → (j : Int) ∉ fs → s.nw.getD j default = oldS j) ∧ WasI p fs U wr ∧ Below base w0 wr

theorem keep_flush (h : KeepI pb db base n p fs k w0 wr) (hk : k ≤ 400) (hf : fs.length ≤ 400) :
    Calls Tryz.prog 28 #[.pointer (some ⟨pb, 0, none⟩)] wr fun e w' => e = .returned (.int .i64 0) ∧ FlushI pb db base n p fs w0 w' := by
  obtain ⟨s, U, hJ, hP, hd, hw, hB⟩ := h
  have hnm := hJ.nm
  have hll := hJ.ll
  have hsl := hJ.sl
  have hal := hJ.al
  have hdl := hJ.dl
  have p1 := hJ.pg1
  have p2 := hJ.nw1
  refine (pg_flush hP hJ.sla (fun t ht => by have := hJ.keys t ht; omega) (by omega) (by omega) (by rw [hJ.wr]; rfl) (by rw [hJ.fw]; simp) (by omega) (by omega) (by omega)).mono ?_
  rintro e w' ⟨he, s', U', hP', hS', h1, _, h3, h4⟩
  refine ⟨he, s', U', hP', h1.trans hd, by omega, fun j hj1 hj2 hj3 => ?_, hw.step hS', hP.bel hS' hB⟩
  rw [h4 j (fun hm => hj3 ((hJ.keys _ hm).2.2 (by omega)))]
  exact hJ.olds j hj1 hj2

theorem flush_sync (h : FlushI pb db base n p fs w0 wr) : Calls Tryz.prog 24 #[.pointer (some ⟨db, 0, none⟩)] wr fun e w' => e = .returned (.int .i64 0) ∧ FlushI pb db base n p fs w0 w' := by
  obtain ⟨s, U, hP, rfl, h1, h2, hw, hB⟩ := h
  have hP0 := hP
  obtain ⟨Fs, hI, rfl⟩ := hP
  have hD : Dv s.db s.dbase s.most true false 0 s.sy s.nw s.wr (Fs 1) wr := hI.part 1
  refine (dv_sync hD).mono ?_
  rintro e w' ⟨he, F', hD', hS⟩
  obtain ⟨U', h3, h4⟩ := hI.dev hD' hS
  exact ⟨he, _, U', h3, rfl, h1, h2, hw.step h4, hP0.bel h4 hB⟩

theorem FlushI.below (h : FlushI pb db base n p fs w0 wr) (hb : Below wr.heap.size wr w') : FlushI pb db base n p fs w0 w' := by
  obtain ⟨s, U, hP, hd, h1, h2, hw, hB⟩ := h
  exact ⟨s, U, hP.below hb, hd, h1, h2, hw.step (Step.still hb), hB.trans (hb.mono (hP.bsz))⟩
theorem FlushI.bel (h : FlushI pb db base n p fs w0 wr) : Below base w0 wr := by
  obtain ⟨s, U, hP, hd, h1, h2, hw, hB⟩ := h
  exact hB
theorem flush_in (x : Int) {c : Nat} (h : FlushI pb db base n p fs w0 wr) (hf : fs.length ≤ 1000) :
    Calls Tryz.prog 15 #[.slice p fs.length c, .int .i64 x] wr fun e w' => e = .returned (.bool (decide (x ∈ fs))) ∧ w' = wr := by
  obtain ⟨s, U, hP, hd, h1, h2, hw, hB⟩ := h
  exact in_any p fs.length c _ fs x wr hw.1 (by omega)
theorem flush_read (j : Nat) (h : FlushI pb db base n p fs w0 wr) (h2 : 2 ≤ j) (hj : j < n) :
    Calls Tryz.prog 29 #[.pointer (some ⟨db, 0, none⟩), .int .i64 (j : Int)] wr fun e w' => ∃ S, e = .returned (.tuple #[.string S, .int .i64 0]) ∧ ((j : Int) ∉ fs → S = oldS j) ∧ w' = wr := by
  obtain ⟨s, U, hP, rfl, h1, h2', hw, hB⟩ := h
  obtain ⟨F, hD, _⟩ := hP.dev
  refine (dv_read j hD (by omega)).mono ?_
  rintro e w' ⟨he, hw'⟩
  exact ⟨_, he, h2' j h2 hj, hw'⟩
end
end
end Go.Proofs.YtoagbcbkaloacaaGreatDoor
