/- net's Net: Send of one packet; alive of arboretumlaw27 is true. -/
import Derived.Test.YthdpajgnigilhaaNetT
namespace Go.Proofs.Ythdpajgnigilhaa
open Go.RowKit Go.Conc

abbrev pkb (fr to : Int) (da : ByteArray) : Obj := .cells #[.int .i64 fr, .int .i64 to, .string da] 34
theorem rd_one_pk (w : World) (x : Pk) : RdG pcells (w.alloc (pkb x.fr x.to x.da)) (w.alloc (pkb x.fr x.to x.da)).heap.size (some ⟨w.heap.size, 0, none⟩) 1 [x] :=
  ⟨rfl, fun _ => ⟨w.heap.size, 0, rfl, by simp, fun j u hu => by
    have e := new_cells w [.int .i64 x.fr, .int .i64 x.to, .string x.da] 34 j u (by simpa [rowOf, pcells] using hu)
    rw [add_at] at e
    exact e⟩⟩

section
variable {base nb : Nat} {S : List Nd} {seq : Int} {cu : Value} {m : Option Nat} {ob : Obj} {F : Nat → Prop} {w : World}

/-- Send of one packet, which comes into the heap. -/
theorem nt_send1 (at' fr to : Int) (da : ByteArray) (h : Nt base nb S seq cu m ob F w) (hlk : ∀ W, CutW m ob W → look cu fr to false W) (hda : da.size ≤ 1000000) (hroom : S.length < 600) (hs0 : 0 ≤ seq) (hs : seq ≤ 500000) :
    Calls Try.prog 10 #[.pointer (some ⟨nb, 0, none⟩), .int .i64 at', .slice (some ⟨w.heap.size, 0, none⟩) 1 1] (w.alloc (pkb fr to da)) fun e w' => e = .returned (.int .i64 1) ∧
      ∃ F', Nt base nb (S ++ [⟨fr, to, da, at', seq + 1⟩]) (seq + 1) cu m ob F' w' ∧ Step F F' w w' := by
  have hF : Fr (fun _ => False) w (w.alloc (pkb fr to da)) := (Fr.refl _ w).alloc _
  have hlt := h.lt
  have e1 : accept (fun _ _ => false) at' S.length seq [⟨fr, to, da⟩] = [⟨fr, to, da, at', seq + 1⟩] := by simp [accept]; omega
  have hs := nt_send at' (fun _ _ => false) [⟨fr, to, da⟩] (some ⟨w.heap.size, 0, none⟩) 1 1 (h.keep hF (fun _ _ h => h) (fun _ _ h => h)) (Lib.hid (fun k hk W hW => by have e9 : k = 0 := (by omega); subst e9; exact hlk W hW))
    (rd_one_pk w ⟨fr, to, da⟩) (fun b o e hb => by injection e with e; injection e with e _; have := hlt b hb; omega) (Lib.hid (fun k hk => by have e9 : k = 0 := (by omega); subst e9; exact hda)) (by omega) hs0 hs
  rw [e1] at hs
  refine hs.mono ?_
  rintro e w' ⟨rfl, F', hN, hst⟩
  exact ⟨rfl, F', hN, Fr.trans (hF.mono (fun _ _ h => h.elim)) hst.1 (fun i hi _ => hi), fun k hk => (hst.2 k hk).imp id (fun h => Nat.le_trans hF.size h)⟩

/-- Send of one packet, which is lost. -/
theorem nt_send1_no (at' fr to : Int) (da : ByteArray) (b : Bool) (h : Nt base nb S seq cu m ob F w) (hlk : ∀ W, CutW m ob W → look cu fr to b W) (hda : da.size ≤ 1000000) (hroom : b = true ∨ 600 ≤ S.length) (hs0 : 0 ≤ seq) (hs : seq ≤ 500000) :
    Calls Try.prog 10 #[.pointer (some ⟨nb, 0, none⟩), .int .i64 at', .slice (some ⟨w.heap.size, 0, none⟩) 1 1] (w.alloc (pkb fr to da)) fun e w' => e = .returned (.int .i64 0) ∧
      ∃ F', Nt base nb S seq cu m ob F' w' ∧ Step F F' w w' := by
  have hF : Fr (fun _ => False) w (w.alloc (pkb fr to da)) := (Fr.refl _ w).alloc _
  have hlt := h.lt
  have e1 : accept (fun _ _ => b) at' S.length seq [⟨fr, to, da⟩] = [] := by
    rcases hroom with h | h <;> simp [accept, h]
  have hs := nt_send at' (fun _ _ => b) [⟨fr, to, da⟩] (some ⟨w.heap.size, 0, none⟩) 1 1 (h.keep hF (fun _ _ h => h) (fun _ _ h => h)) (Lib.hid (fun k hk W hW => by have e9 : k = 0 := (by omega); subst e9; exact hlk W hW))
    (rd_one_pk w ⟨fr, to, da⟩) (fun b o e hb => by injection e with e; injection e with e _; have := hlt b hb; omega) (Lib.hid (fun k hk => by have e9 : k = 0 := (by omega); subst e9; exact hda)) (by omega) hs0 hs
  rw [e1] at hs
  refine hs.mono ?_
  rintro e w' ⟨rfl, F', hN, hst⟩
  refine ⟨rfl, F', by simpa using hN, Fr.trans (hF.mono (fun _ _ h => h.elim)) hst.1 (fun i hi _ => hi), fun k hk => (hst.2 k hk).imp id (fun h => Nat.le_trans hF.size h)⟩
end

def sx : ByteArray := ⟨#[120]⟩
def sy : ByteArray := ⟨#[121]⟩

set_option maxHeartbeats 2000000 in
set_option maxRecDepth 100000 in
theorem alive_true (w : World) : Calls Try.prog 8 #[] w fun e w' => e = .returned (.bool true) ∧ Below w.heap.size w w' := by
  have hlk : Hid (∀ (W : World), CutW none (.deferred none) W → look (.map none) 0 0 false W) := Lib.hid (fun W _ => look_nil 0 0 W)
  go_enter Try.func8, Try.ntmps8
  go_wp2_with fail
  refine (nt_new w).mono ?_
  rintro e w1 ⟨rfl, hN1, hb1⟩
  have HB1 := Lib.hid hb1
  have HS1 := Lib.hid (nt_send1 5 0 0 sx hN1 hlk.out (by decide) (by simp) (by omega) (by omega))
  have HN1 := Lib.hid hN1
  clear hb1 hN1
  go_wp2_with fail
  refine HS1.out.mono ?_
  rintro e w2 ⟨rfl, F2, hN2, hst2⟩
  have HT2 := Lib.hid hst2
  have HS2 := Lib.hid (nt_send1 3 0 0 sy hN2 hlk.out (by decide) (by simp) (by omega) (by omega))
  clear hN2 hst2 HS1
  go_wp2_with fail
  refine HS2.out.mono ?_
  rintro e w3 ⟨rfl, F3, hN3, hst3⟩
  have HT3 := Lib.hid (HT2.out.trans hst3)
  have HN3 := Lib.hid hN3
  clear hN3 hst3 HS2 HT2
  obtain ⟨x, hx, hmin, -, hdue⟩ := nt_due 4 HN3.out (by simp)
  have hxe : x = ⟨0, 0, sy, 3, 0 + 1 + 1⟩ := by
    simp only [List.nil_append, List.cons_append, List.mem_cons, List.not_mem_nil, or_false] at hx
    rcases hx with rfl | rfl
    · have := hmin ⟨0, 0, sy, 3, 0 + 1 + 1⟩ (by simp)
      rw [wlt_false] at this
      simp at this
    · rfl
  subst hxe
  have HD := Lib.hid (hdue (by simp))
  clear hx hmin hdue
  go_wp2_with fail
  refine HD.out.mono ?_
  rintro e w4 ⟨rfl, S4, F4, hp4, hN4, hst4⟩
  have hS4 : S4 = [⟨0, 0, sx, 5, 0 + 1⟩] := by
    have h1 : (⟨0, 0, sy, 3, 0 + 1 + 1⟩ :: S4).Perm (⟨0, 0, sy, 3, 0 + 1 + 1⟩ :: [⟨0, 0, sx, 5, 0 + 1⟩]) := hp4.trans (List.Perm.swap _ _ _)
    exact List.perm_singleton.1 (List.Perm.cons_inv h1)
  subst hS4
  have HT4 := Lib.hid (HT3.out.trans hst4)
  have HN4 := Lib.hid hN4
  have HL4 : Hid (∀ k, F4 k → k < w4.heap.size) := Lib.hid hN4.lt
  clear hp4 hN4 hst4 HD HT3
  unfold pkv
  have HN5 := Lib.hid (HN4.out.keep ((Fr.refl (fun _ => False) w4).alloc (pkb 0 0 sy)) (fun _ _ h => h) (fun _ _ h => h))
  obtain ⟨x, hx, -, hdue, -⟩ := nt_due 4 HN5.out (by simp)
  have hxe : x = ⟨0, 0, sx, 5, 0 + 1⟩ := by simpa using hx
  subst hxe
  have HD := Lib.hid (hdue (by simp))
  clear hx hdue
  have y2 : (w4.alloc (pkb 0 0 sy)).cell? ⟨w4.heap.size, 2, none⟩ = some (.string sy) := by go_simp
  have HY := Lib.hid y2
  have hB4 : Hid (w.heap.size ≤ w4.heap.size ∧ w4.heap.size < (w4.alloc (pkb 0 0 sy)).heap.size) := Lib.hid ⟨by have h1 := HB1.out.size; have h2 := HT4.out.1.size; omega, by simp⟩
  clear y2
  go_wp2_with fail
  refine HD.out.mono ?_
  rintro e w6 ⟨rfl, hb6⟩
  have hF6 : Fr (fun _ => False) (w4.alloc (pkb 0 0 sy)) w6 := Fr.of_all (S := fun _ => False) hb6
  have HN6 := Lib.hid (HN5.out.keep hF6 (fun _ _ h => h) (fun _ _ h => h))
  have HY6 := Lib.hid ((hb6.cell (p := ⟨w4.heap.size, 2, none⟩) hB4.out.2).trans HY.out)
  have hB6 : Hid (Below w4.heap.size w4 w6) := Lib.hid (((Below.refl _ w4).alloc (Nat.le_refl _) _).trans (hb6.mono (Nat.le_of_lt hB4.out.2)))
  have hz6 : Hid (w4.heap.size < w6.heap.size) := Lib.hid (Nat.lt_of_lt_of_le hB4.out.2 hb6.size)
  clear hb6 hF6 HD HY HN4 HN5
  unfold pkv
  have HN7 := Lib.hid (HN6.out.keep ((Fr.refl (fun _ => False) w6).alloc (pkb 0 0 ByteArray.empty)) (fun _ _ h => h) (fun _ _ h => h))
  have HP := Lib.hid (nt_pull 0 HN7.out (by simp))
  go_wp2_with fail
  refine HP.out.mono ?_
  rintro e w8 ⟨x, ts, rfl, hts, -, hxe, S8, F8, hp8, hN8, hst8⟩
  have hts' : ts = [⟨0, 0, sx, 5, 0 + 1⟩] := List.perm_singleton.1 hts
  subst hts'
  have hxe' : x = ⟨0, 0, sx, 5, 0 + 1⟩ := hxe
  subst hxe'
  have hS8 : S8 = [] := by have := hp8.length_eq; simpa using this
  subst hS8
  have hF68 : Hid (Fr F4 w4 w8) := Lib.hid (Fr.trans (Fr.trans (Fr.of_all (S := F4) hB6.out) ((Fr.refl F4 w6).alloc (pkb 0 0 ByteArray.empty)) (fun _ h _ => h)) hst8.1 (fun _ h _ => h))
  have HT8 := Lib.hid (HT4.out.1.size)
  have HLT4 : Hid (¬ F4 w4.heap.size) := Lib.hid (fun h => by have := HN6.out.lt; have h2 := HT4.out; have h3 := HL4.out _ h; omega)
  have y8 : w8.cell? ⟨w4.heap.size, 2, none⟩ = some (.string sy) := (hst8.1.cell (p := ⟨w4.heap.size, 2, none⟩) (by have := hz6.out; simp; omega) HLT4.out).trans (by rw [World.cell?_alloc_lt _ _ _ hz6.out]; exact HY6.out)
  have hz8 : w4.heap.size < w8.heap.size := by have h1 := hz6.out; have h2 := hst8.1.size; simp at h2; omega
  have HN9 := Lib.hid (hN8.keep ((Fr.refl (fun _ => False) w8).alloc (pkb 0 0 sx)) (fun _ _ h => h) (fun _ _ h => h))
  have HB8 : Hid (Below w.heap.size w w8) := Lib.hid (HB1.out.trans ((Fr.trans HT4.out.1 hF68.out (fun i hi hlt => (HT4.out.2 i hi).resolve_right (by omega))).below HB1.out.size (fun i hi => by have : i = w.heap.size := hi; omega)))
  clear hst8 hN8 hp8 hts hxe HP HN7 HN6
  unfold pkv
  have HLE := Lib.hid (nt_len HN9.out)
  have hqx : sx.toList = [120] := by kernel_rfl
  have hqy : sy.toList = [121] := by kernel_rfl
  go_wp2_with (go_at_call 11; refine HLE.out.mono ?_; rintro e w9 ⟨rfl, rfl⟩)
  go_ret
  exact ⟨rfl, HB8.out.alloc HB8.out.size _⟩
end Go.Proofs.Ythdpajgnigilhaa
