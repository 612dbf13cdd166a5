/- net's Net as a whole: Drop, Clear, many empty packets at once. -/
import Derived.Test.YthdpajgnigilhaaNetU
namespace Go.Proofs.Ythdpajgnigilhaa
open Go.RowKit Go.Conc

theorem el_replicate (n k : Nat) (x : Pk) (hk : k < n) : HL.el (List.replicate n x) k = x := by
  simp [HL.el, List.getD, hk]

theorem made_pk (n : Nat) : (madeCells (Value.cells (.agg #[.int .i64 0, .int .i64 0, .string ByteArray.empty])) (n * 3)).toList = rowOf pcells (List.replicate n ⟨0, 0, ByteArray.empty⟩) := by
  apply List.ext_getElem?
  intro t
  have hl := rowOf_length pcells pcells_length (List.replicate n ⟨0, 0, ByteArray.empty⟩)
  rw [List.length_replicate] at hl
  by_cases ht : t < n * 3
  · have hd : t / 3 < n := by omega
    have hm : t % 3 < 3 := by omega
    have r := rowOf_at pcells pcells_length (List.replicate n ⟨0, 0, ByteArray.empty⟩) (t / 3) (t % 3) (by rw [List.length_replicate]; exact hd) hm
    rw [show t / 3 * 3 + t % 3 = t by omega] at r
    rw [r]
    have e1 : (List.replicate n (⟨0, 0, ByteArray.empty⟩ : Pk)).getD (t / 3) default = ⟨0, 0, ByteArray.empty⟩ := el_replicate n (t / 3) _ hd
    rw [e1]
    have e2 : (madeCells (Value.cells (.agg #[.int .i64 0, .int .i64 0, .string ByteArray.empty])) (n * 3)).toList[t]? = some ((#[Value.int .i64 0, .int .i64 0, .string ByteArray.empty])[t % 3]!) := by
      unfold madeCells
      rw [Array.getElem?_toList, Array.getElem?_map, Array.getElem?_range, if_pos ht]
      rfl
    rw [e2]
    have h3 : t % 3 = 0 ∨ t % 3 = 1 ∨ t % 3 = 2 := by omega
    rcases h3 with h | h | h <;> rw [h] <;> rfl
  · rw [List.getElem?_eq_none (by simp [size_madeCells]; omega), List.getElem?_eq_none (by omega)]

theorem info_pk : (Try.prog.info? 34).map (fun i => (i.zero, i.size, i.bytes)) = some (some (.agg #[.int .i64 0, .int .i64 0, .string ByteArray.empty]), 3, 32) := by kernel_rfl

/-- 'make([]net.Packet, n)'. -/
theorem make_pk (n : Nat) (hn : n ≤ 1000) (w : World) : ∃ W, (Instr.makeSlice 26 (.int .i64 n) (.int .i64 n)).run Try.prog w = .ok (.slice (some ⟨w.heap.size, 0, none⟩) n n) W ∧
    RdG pcells W W.heap.size (some ⟨w.heap.size, 0, none⟩) n (List.replicate n ⟨0, 0, ByteArray.empty⟩) ∧ Fr (fun _ => False) w W := by
  obtain ⟨i0, hi0, hz0, hz1, hz2⟩ := info_parts info_pk
  obtain ⟨W, h1, h2, h3⟩ := run_make_full (P := Try.prog) w w.heap.size 26 34 i0 _ 3 Try.underlying26 hi0 hz0 hz1 .i64 .i64 n (by rw [hz2]; omega) (by unfold maxLen; omega) (Nat.le_refl _)
  refine ⟨W, h1, ?_, Fr.of_grown h3 (fun _ _ e => by cases e)⟩
  rw [made_pk] at h2
  exact RdG.of_own h2 (by simp)

theorem accept_rep (at' : Int) (n0 : Nat) (s0 : Int) (n : Nat) (x : Pk) : (accept (fun _ _ => false) at' n0 s0 (List.replicate n x)).length = min n (600 - n0) := by
  induction n with
  | zero => simp [accept]
  | succ n ih =>
    rw [List.replicate_succ', accept_snoc]
    simp only [Bool.false_or]
    by_cases h : 600 ≤ n0 + (accept (fun _ _ => false) at' n0 s0 (List.replicate n x)).length
    · rw [if_pos (by simpa using h)]; omega
    · rw [if_neg (by simpa using h), List.length_append, List.length_singleton]; omega

section
variable {base nb : Nat} {S : List Nd} {seq : Int} {cu : Value} {m : Option Nat} {ob : Obj} {F : Nat → Prop} {w : World}

/-- Send of n empty packets. -/
theorem nt_send_many (at' : Int) (n : Nat) (W : World) (hn : n ≤ 1000) (h : Nt base nb S seq cu m ob F w) (hlk : ∀ W, CutW m ob W → look cu 0 0 false W) (hR : RdG pcells W W.heap.size (some ⟨w.heap.size, 0, none⟩) n (List.replicate n ⟨0, 0, ByteArray.empty⟩)) (hF : Fr (fun _ => False) w W) (hs0 : 0 ≤ seq) (hs : seq ≤ 500000) :
    Calls Try.prog 10 #[.pointer (some ⟨nb, 0, none⟩), .int .i64 at', .slice (some ⟨w.heap.size, 0, none⟩) n n] W fun e w' => e = .returned (.int .i64 ((min n (600 - S.length) : Nat) : Int)) ∧
      ∃ S' F', S'.length = S.length + min n (600 - S.length) ∧ Nt base nb S' (seq + (min n (600 - S.length) : Nat)) cu m ob F' w' ∧ Step F F' w w' := by
  have hlt := h.lt
  have hs := nt_send at' (fun _ _ => false) (List.replicate n ⟨0, 0, ByteArray.empty⟩) (some ⟨w.heap.size, 0, none⟩) n n (h.keep hF (fun _ _ h => h) (fun _ _ h => h)) (Lib.hid (fun k hk W hW => by rw [el_replicate n k _ hk]; exact hlk W hW))
    hR (fun b o e hb => by injection e with e; injection e with e _; have := hlt b hb; omega) (Lib.hid (fun k hk => by rw [el_replicate n k _ hk]; decide)) (by omega) hs0 hs
  rw [accept_rep] at hs
  refine hs.mono ?_
  rintro e w' ⟨rfl, F', hN, hst⟩
  refine ⟨rfl, _, F', ?_, hN, Fr.trans (hF.mono (fun _ _ h => h.elim)) hst.1 (fun i hi _ => hi), fun k hk => (hst.2 k hk).imp id (fun h => Nat.le_trans hF.size h)⟩
  rw [List.length_append, accept_rep]

set_option maxRecDepth 100000 in
theorem nt_drop (k : Nat) (h : Nt base nb S seq cu m ob F w) (hk : k < S.length) :
    Calls Try.prog 12 #[.pointer (some ⟨nb, 0, none⟩), .int .i64 k] w fun e w' => e = .returned (.bool true) ∧ ∃ (x : Nd) (ts : List Nd), ts.Perm S ∧ SortedD ts ∧ x = HL.el ts k ∧
      ∃ S' F', (x :: S').Perm S ∧ Nt base nb S' seq cu m ob F' w' ∧ Step F F' w w' := by
  have HP := Lib.hid (nt_pull k h hk)
  clear h
  go_enter Try.func12, Try.ntmps12
  go_wp2_with fail
  refine HP.out.mono ?_
  rintro e w1 ⟨x, ts, rfl, hts, hsd, hx, S', F', hp, hN, hst⟩
  have HH := Lib.hid (And.intro hts (And.intro hsd (And.intro hx (And.intro hp (And.intro hN hst)))))
  clear hts hsd hx hp hN hst
  unfold pkv
  go_wp2
  go_ret
  obtain ⟨h1, h2, h3, h4, h5, h6⟩ := HH.out
  exact ⟨rfl, x, ts, h1, h2, h3, S', F', h4, h5.keep ((Fr.refl (fun _ => False) w1).alloc _) (fun _ _ h => h) (fun _ _ h => h), h6.1.alloc _, h6.2⟩

theorem NetI.cleared {v : Value} {l : List Nd} {ch : Value} (h : NetI nb base v l seq cu ch w) :
    NetI nb base (.slice none 0 0) [] seq cu ch (w.setCell ⟨nb, 0, none⟩ (.slice none 0 0)) ∧ Fr (fun k => k = nb) w (w.setCell ⟨nb, 0, none⟩ (.slice none 0 0)) := by
  obtain ⟨⟨a1, a2, a3, a4, a5, a6⟩, b, c, d, e, f, g, i⟩ := h
  have hF : Fr (fun k => k = nb) w (w.setCell ⟨nb, 0, none⟩ (.slice none 0 0)) := (Fr.refl (fun k => k = nb) w).setCell (p := ⟨nb, 0, none⟩) (fun _ => rfl) _
  refine ⟨⟨⟨cell_set_same _ _ _ _ a1, by rw [frozen_set]; exact a2, World.ownsRow_nil _ _ _ _, by simp [Value.ownBlock], by simp, Nat.le_trans a6 hF.size⟩, ?_, by rw [frozen_set]; exact c, ?_, by rw [frozen_set]; exact e, ?_, by rw [frozen_set]; exact g, HL.isHeap_nil⟩, hF⟩
  · rw [World.cell?_setCell_other _ _ _ _ (by simp)]; exact b
  · rw [World.cell?_setCell_other _ _ _ _ (by simp)]; exact d
  · rw [World.cell?_setCell_other _ _ _ _ (by simp)]; exact f

set_option maxRecDepth 100000 in
theorem nt_clear (h : Nt base nb S seq cu m ob F w) (hS : 0 < S.length) :
    Calls Try.prog 13 #[.pointer (some ⟨nb, 0, none⟩)] w fun e w' => e = .returned (.int .i64 S.length) ∧ ∃ F', Nt base nb [] seq cu m ob F' w' ∧ Step F F' w w' := by
  have HL1 := Lib.hid (nt_len h)
  obtain ⟨v, ch, l, hI, hp, hch, hcw, hmF, hge, hb, rfl⟩ := h
  have hc0 := hI.h.1
  have hf0 := hI.h.2.1
  have hlt := cell_lt hI.c1
  obtain ⟨q, d, hv⟩ := owns_slice hI.h.2.2.1
  have hst := nt_step hI hch hcw hmF hge hb hI.cleared.1 (List.Perm.refl []) (hI.cleared.2.mono (fun _ _ h => .inl h)) (fun g hg => by simp [Value.ownBlock] at hg)
  have HST := Lib.hid hst
  clear hst hI hch hcw hmF hge hb hp
  rw [hv] at hc0
  clear hv
  go_enter Try.func13, Try.ntmps13
  go_wp2_with fail
  refine HL1.out.mono ?_
  rintro e w1 ⟨rfl, rfl⟩
  go_wp2
  go_ret
  exact ⟨rfl, HST.out⟩
end
end Go.Proofs.Ythdpajgnigilhaa
