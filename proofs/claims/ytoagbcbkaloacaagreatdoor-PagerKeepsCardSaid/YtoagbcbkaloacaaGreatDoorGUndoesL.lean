/- arboretumlaw7.PagerUndoes: the walk. -/
import Derived.Test.YtoagbcbkaloacaaGreatDoorGUndoL
import Derived.Test.YtoagbcbkaloacaaGreatDoorGOps
import Derived.Test.YtoagbcbkaloacaaGreatDoorSame
namespace Go.Proofs.YtoagbcbkaloacaaGreatDoor
open Go.RowKit Go.Maps Go.Conc

/-- Some of the numbers were looked at. -/
def Looked (ls fs : List Int) (k : Nat) : Prop := fs = ls.take k ∧ fs.Nodup ∧ ∀ x ∈ fs, 2 ≤ x ∧ x < 12

theorem Looked.next {ls fs : List Int} {k : Nat} (h : Looked ls fs k) (hk : k < ls.length) (h1 : ¬ HL.el ls k < 2) (h2 : ¬ 12 ≤ HL.el ls k) (h3 : HL.el ls k ∉ fs) : Looked ls (fs ++ [HL.el ls k]) (k + 1) := by
  obtain ⟨rfl, hn, hb⟩ := h
  have e9 := HL.el_eq ls k hk
  rw [List.getElem?_eq_getElem hk] at e9
  injection e9 with e9
  refine ⟨by rw [List.take_succ_eq_append_getElem hk, e9], ?_, fun x hx => ?_⟩
  · refine List.nodup_append.2 ⟨hn, by simp, fun a ha b hb' e => ?_⟩
    rw [List.mem_singleton] at hb'
    subst hb'
    exact h3 (e ▸ ha)
  · rcases List.mem_append.1 hx with hx | hx
    · exact hb x hx
    · rw [List.mem_singleton] at hx
      subst hx
      omega

theorem TakeR.same2 {s s' : PgS} {e : Ending} (h : TakeR s e s') : s'.db = s.db ∧ s'.fb = s.fb := by
  rcases h with ⟨sp', _, _, rfl, _⟩ | ⟨l', _, _, _, rfl, _⟩ | ⟨_, _, _, _, rfl⟩ | ⟨_, _, _, _, rfl⟩ <;> exact ⟨rfl, rfl⟩
theorem MakeR.same2 {s s' : PgS} {kk nn : Int} {b : ByteArray} {e : Ending} (h : MakeR s kk nn b e s') : s'.db = s.db ∧ s'.fb = s.fb := by
  rcases h with ⟨_, _, rfl⟩ | ⟨_, _, _, _, _, rfl⟩ | ⟨_, s1, hT, _, rfl⟩
  · exact ⟨rfl, rfl⟩
  · exact ⟨rfl, rfl⟩
  · exact hT.same2
theorem DropR.same2 {s s' : PgS} {id : Int} (h : DropR s id s') : s'.db = s.db ∧ s'.fb = s.fb := by
  rcases h with rfl | ⟨_, _, _, ⟨_, l', _, rfl⟩ | ⟨_, sp', _, rfl⟩⟩ | ⟨_, _, _, rfl⟩ <;> exact ⟨rfl, rfl⟩

/-- What the second loop keeps. -/
def UndI (pb base db fb : Nat) (l0 : List Int) (k : Nat) (U0 : Nat → Prop) (w0 wr : World) : Prop := ∃ s U, UndJ l0 k s ∧ Pg pb base s U wr ∧ s.db = db ∧ s.fb = fb ∧ Step U0 U w0 wr

/-- Behind Undo. -/
def DoneI (pb base db fb : Nat) (l0 : List Int) (U0 : Nat → Prop) (w0 wr : World) : Prop := ∃ s U, Pg pb base s U wr ∧ s.pages = 12 ∧ s.A = [] ∧ s.D = [] ∧ s.sp = [] ∧ s.nm = 0 ∧ s.wr = [] ∧ s.fw = [] ∧ s.l.Perm l0 ∧ s.db = db ∧ s.fb = fb ∧ Step U0 U w0 wr

theorem UndJ.new {db dbase fb fbase bm bd bw sb sbase : Nat} {sy : List ByteArray} {l l0 : List Int} {txn : Int} (h : l.Perm l0) : UndJ l0 0 (pgNew db dbase 40 sy (List.replicate 12 page0) [] fb fbase l [] 12 txn bm bd bw sb sbase) := by
  refine ⟨rfl, rfl, Nat.le_refl _, by simp [pgNew], by simp [pgNew], rfl, rfl, (fun _ h => by cases h), (fun _ h => by cases h), List.nodup_nil, ?_, Nat.le_refl _, Nat.le_refl _, Nat.le_refl _⟩
  show (l ++ []).Perm l0
  rw [List.append_nil]
  exact h

section
variable {pb base db fb k : Nat} {l0 : List Int} {U0 : Nat → Prop} {w0 wr w' : World}
theorem und_make (kk nn : Int) (b : ByteArray) (h : UndI pb base db fb l0 k U0 w0 wr) (hl : ∀ x ∈ l0, 2 ≤ x ∧ x < 12) (hn0 : l0.Nodup) (hb : b.size ≤ 1000000) (hk : k ≤ 1000) :
    Calls Tryz.prog 10 #[.pointer (some ⟨pb, 0, none⟩), .agg #[.int .i64 kk, .int .i64 nn, .string b]] wr fun e w' => (∃ x y, e = .returned (.tuple #[.int .i64 x, .int .i64 y])) ∧ UndI pb base db fb l0 (k + 1) U0 w0 w' := by
  obtain ⟨s, U, hJ, hP, hd, hf, hS⟩ := h
  have hbd := hJ.bound hl
  have hnm := hJ.nm
  refine (pg_make kk nn b hP (by rw [hJ.most]; exact hJ.nw2) (by rw [hJ.most]; omega) hJ.nw1 (int_wf (by omega) (by omega)) hb (by omega)).mono ?_
  rintro e w' ⟨s', U', hM, hP', hS'⟩
  refine ⟨?_, s', U', hJ.make hl hn0 hM, hP', by rw [hM.same2.1, hd], by rw [hM.same2.2, hf], hS.trans hS'⟩
  rcases hM with ⟨_, he, _⟩ | ⟨_, _, _, _, he, _⟩ | ⟨_, _, _, he, _⟩
  · exact ⟨_, _, he⟩
  · exact ⟨_, _, he⟩
  · exact ⟨_, _, he⟩
theorem und_drop (id : Int) (h : UndI pb base db fb l0 k U0 w0 wr) (hid : (Lit.int .i64 id).wf = true) (hl0 : l0.length ≤ 1000) (hk : k ≤ 1000) :
    Calls Tryz.prog 13 #[.pointer (some ⟨pb, 0, none⟩), .int .i64 id] wr fun e w' => (∃ y, e = .returned (.int .i64 y)) ∧ UndI pb base db fb l0 (k + 1) U0 w0 w' := by
  obtain ⟨s, U, hJ, hP, hd, hf, hS⟩ := h
  have hnm := hJ.nm
  have hll := hJ.ll
  have hsl := hJ.sl
  refine (pg_drop_any id hP hid hJ.nw1 hJ.pg (by omega) (by omega) (by omega)).mono ?_
  rintro e w' ⟨he, s', U', hD, hP', hS'⟩
  exact ⟨he, s', U', hJ.drop hD, hP', by rw [hD.same2.1, hd], by rw [hD.same2.2, hf], hS.trans hS'⟩
theorem UndI.more (h : UndI pb base db fb l0 k U0 w0 wr) : UndI pb base db fb l0 (k + 1) U0 w0 wr := by
  obtain ⟨s, U, hJ, h⟩ := h
  exact ⟨s, U, hJ.more, h⟩
theorem und_undo (h : UndI pb base db fb l0 k U0 w0 wr) (hl0 : l0.length ≤ 1000) (hk : k ≤ 1000) :
    Calls Tryz.prog 17 #[.pointer (some ⟨pb, 0, none⟩)] wr fun e w' => e = .returned (.tuple #[]) ∧ DoneI pb base db fb l0 U0 w0 w' := by
  obtain ⟨s, U, hJ, hP, hd, hf, hS⟩ := h
  have hnm := hJ.nm
  have hll := hJ.ll
  have hal := hJ.al
  refine (pg_undo hP (by omega) (by omega) (by omega)).mono ?_
  rintro e w' ⟨he, l', bm, bd, bw, sb, sbase, U', hp, hP', hS'⟩
  exact ⟨he, _, U', hP', hJ.base, rfl, rfl, rfl, rfl, hJ.wr, hJ.fw, hJ.undo hp, hd, hf, hS.trans hS'⟩
theorem DoneI.below (h : DoneI pb base db fb l0 U0 w0 wr) (hb : Below wr.heap.size wr w') : DoneI pb base db fb l0 U0 w0 w' := by
  obtain ⟨s, U, hP, h1, h2, h3, h4, h5, h6, h7, h8, h9, h10, hS⟩ := h
  exact ⟨s, U, hP.below hb, h1, h2, h3, h4, h5, h6, h7, h8, h9, h10, hS.trans (Step.still hb)⟩
theorem done_pages (h : DoneI pb base db fb l0 U0 w0 wr) : Calls Tryz.prog 11 #[.pointer (some ⟨pb, 0, none⟩)] wr fun e w' => e = .returned (.int .i64 12) ∧ w' = wr := by
  obtain ⟨s, U, hP, h1, _⟩ := h
  have e := pg_pages hP
  rw [h1] at e
  exact e
theorem done_all (h : DoneI pb base db fb l0 U0 w0 wr) (hl : l0.length ≤ 1000) : Calls Tryz.prog 16 #[.pointer (some ⟨fb, 0, none⟩)] wr fun e w' => ∃ u c, e = .returned (.slice u l0.length c) ∧ RdI w' w'.heap.size u l0.length (CL.srt l0) ∧ Below wr.heap.size wr w' := by
  obtain ⟨s, U, hP, h1, h2, h3, h4, h5, h6, h7, h8, h9, h10, hS⟩ := h
  obtain ⟨F, hF, _⟩ := hP.fre
  rw [h10, h7] at hF
  refine (fe_all hF (by rw [h8.length_eq]; simp; omega)).mono ?_
  rintro e w' ⟨u, rfl, ho, hb⟩
  have hn : s.l ++ pagesOf [] = s.l := by simp [pagesOf]
  rw [hn, CL.srt_of_perm h8, h8.length_eq, List.length_nil, Nat.add_zero] at ho
  obtain ⟨q, c, rfl⟩ := owns_slice ho
  exact ⟨q, c, rfl, RdI.of_own ho (CL.srt_length _), hb⟩
theorem done_made (h : DoneI pb base db fb l0 U0 w0 wr) : Calls Tryz.prog 12 #[.pointer (some ⟨pb, 0, none⟩)] wr fun e w' => ∃ u c, e = .returned (.slice u 0 c) ∧ Below wr.heap.size wr w' := by
  obtain ⟨s, U, hP, h1, h2, h3, h4, h5, _⟩ := h
  refine (pg_made hP (by rw [h5]; omega) (by rw [h2]; simp)).mono ?_
  rintro e w' ⟨u, rfl, ho, hb⟩
  rw [h2] at ho
  obtain ⟨q, c, rfl⟩ := owns_slice ho
  exact ⟨q, c, rfl, hb⟩
theorem done_dropped (h : DoneI pb base db fb l0 U0 w0 wr) : Calls Tryz.prog 19 #[.pointer (some ⟨pb, 0, none⟩)] wr fun e w' => ∃ u c, e = .returned (.slice u 0 c) ∧ Below wr.heap.size wr w' := by
  obtain ⟨s, U, hP, h1, h2, h3, h4, h5, _⟩ := h
  refine (pg_dropped hP (by rw [h5]; omega) (by rw [h3]; simp)).mono ?_
  rintro e w' ⟨u, rfl, ho, hb⟩
  rw [h3] at ho
  obtain ⟨q, c, rfl⟩ := owns_slice ho
  exact ⟨q, c, rfl, hb⟩
theorem done_spare (h : DoneI pb base db fb l0 U0 w0 wr) : Calls Tryz.prog 20 #[.pointer (some ⟨pb, 0, none⟩)] wr fun e w' => ∃ u c, e = .returned (.slice u 0 c) ∧ Below wr.heap.size wr w' := by
  obtain ⟨s, U, hP, h1, h2, h3, h4, h5, _⟩ := h
  refine (pg_spare hP).mono ?_
  rintro e w' ⟨u, rfl, ho, hb⟩
  rw [h4] at ho
  obtain ⟨q, c, rfl⟩ := owns_slice ho
  exact ⟨q, c, rfl, hb⟩
theorem done_unsynced (h : DoneI pb base db fb l0 U0 w0 wr) : Calls Tryz.prog 21 #[.pointer (some ⟨db, 0, none⟩)] wr fun e w' => e = .returned (.int .i64 0) ∧ w' = wr := by
  obtain ⟨s, U, hP, h1, h2, h3, h4, h5, h6, h7, h8, h9, h10, hS⟩ := h
  obtain ⟨F, hD, _⟩ := hP.dev
  have e := dv_unsynced hD
  rw [h6, h9] at e
  exact e
end
end Go.Proofs.YtoagbcbkaloacaaGreatDoor
