/- free's Free: List, All. -/
import Derived.Test.YtedcpckocedcoaaGreatFreeP
namespace Go.Proofs.YtedcpckocedcoaaGreat
open Go.RowKit

section
variable {fb base : Nat} {v vw vp : Value} {l : List Int} {ws : List (Int × Int)} {np : Nat} {D : DU} {F : Nat → Prop} {w w' : World}

set_option maxRecDepth 100000 in
theorem fe_list (h : Fe fb base l ws np D F w) :
    Calls Tryz.prog 22 #[.pointer (some ⟨fb, 0, none⟩)] w fun e w' => ∃ u, e = .returned u ∧ w'.ownsRow w.heap.size 3 1 u l.length (rowOf ncells (CL.srt l)) ∧ Below w.heap.size w w' := by
  obtain ⟨v, vw, vp, h, rfl⟩ := h
  have HLX := Lib.hid (pile_list fb base v l w h.pile)
  clear h
  go_enter Tryz.func22, Tryz.ntmps22
  go_wp2_with fail
  refine HLX.out.mono ?_
  rintro e w1 ⟨u, rfl, ho⟩
  have HO := Lib.hid ho
  clear ho
  go_wp2
  go_ret
  exact ⟨u, rfl, HO.out⟩

theorem addr0 (g k : Nat) : (⟨g, 0, none⟩ : Addr).add k = ⟨g, k, none⟩ := by unfold Addr.add; split <;> simp_all
theorem row2_cell {g n cap : Nat} (ho : w.ownsRow base 81 2 (.slice (some ⟨g, 0, none⟩) n cap) ws.length (rowOf wtcells ws)) (k : Nat) (hk : k < ws.length) :
    w.cell? ⟨g, k * 2, none⟩ = some (.int .i64 (ws.getD k default).1) ∧ w.cell? ⟨g, k * 2 + 1, none⟩ = some (.int .i64 (ws.getD k default).2) := by
  have r0 := rowOf_at wtcells wtcells_length ws k 0 hk (by omega)
  have r1 := rowOf_at wtcells wtcells_length ws k 1 hk (by omega)
  rw [Nat.add_zero] at r0
  have c0 := ho.cells (g := g) rfl (k * 2) _ r0
  have c1 := ho.cells (g := g) rfl (k * 2 + 1) _ r1
  exact ⟨by rw [← addr0]; exact c0, by rw [← addr0]; exact c1⟩

def pagesOf (ws : List (Int × Int)) : List Int := ws.map Prod.snd
theorem pages_take (ws : List (Int × Int)) (k : Nat) (hk : k < ws.length) : (pagesOf ws).take (k + 1) = (pagesOf ws).take k ++ [(ws.getD k default).2] := by
  unfold pagesOf
  rw [List.take_succ_eq_append_getElem (by simpa using hk)]
  simp [hk]

set_option maxHeartbeats 1000000 in
set_option maxRecDepth 100000 in
theorem fe_all (h : Fe fb base l ws np D F w) (hn : l.length + ws.length ≤ 1000000) :
    Calls Tryz.prog 23 #[.pointer (some ⟨fb, 0, none⟩)] w fun e w' => ∃ u, e = .returned u ∧ w'.ownsRow w.heap.size 3 1 u (l.length + ws.length) (rowOf ncells (CL.srt (l ++ pagesOf ws))) ∧ Below w.heap.size w w' := by
  obtain ⟨i0, hi0, hz0, hz1, hz2⟩ := info_parts info_int
  obtain ⟨v, vw, vp, h, rfl⟩ := h
  have HLX := Lib.hid (pile_list fb base v l w h.pile)
  obtain ⟨q, d, rfl⟩ := owns_slice h.row
  have hc1 := h.c1
  have hfl : fb < w.heap.size := cell_lt h.c1
  have HR := Lib.hid h.row
  clear h
  go_enter Tryz.func23, Tryz.ntmps23
  go_wp2_with fail
  refine HLX.out.mono ?_
  rintro e w1 ⟨u, rfl, ho, hb⟩
  have hcx := (hb.cell (p := ⟨fb, 1, none⟩) hfl).trans hc1
  have HO1 : Hid (w1.ownsRow w.heap.size 3 1 u (l.length + 0) (rowOf ncells (CL.srt l ++ (pagesOf ws).take 0))) := Lib.hid (by simpa using ho)
  have HB1 := Lib.hid hb
  clear ho hb HLX
  go_wp2
  go_loopw [3, 5, 17] (fun ov _ iv wr => ∃ k : Nat, k ≤ ws.length ∧ iv = .int .i64 k ∧ Hid (wr.ownsRow w.heap.size 3 1 ov (l.length + k) (rowOf ncells (CL.srt l ++ (pagesOf ws).take k))) ∧ Hid (Below w.heap.size w wr)) (fun _ _ iv _ => ws.length - (intOf iv).toNat)
  case atStart => exact ⟨0, Nat.zero_le _, rfl, HO1, HB1⟩
  case round =>
    clear HO1
    obtain ⟨k, hk, rfl, ho, hb⟩ := hrel
    by_cases hlt : k < ws.length
    · obtain ⟨g, cap, hv, _, hg, _⟩ := owns_len HR.out (by omega)
      injection hv with hv1 _ _
      subst hv1
      obtain ⟨x0, x1⟩ := row2_cell HR.out k hlt
      have y0 := (hb.out.cell (p := ⟨g, k * 2, none⟩) hg).trans x0
      have y1 := (hb.out.cell (p := ⟨g, k * 2 + 1, none⟩) hg).trans x1
      have HTK : Hid (rowOf ncells (CL.srt l ++ (pagesOf ws).take (k + 1)) = rowOf ncells (CL.srt l ++ (pagesOf ws).take k) ++ [.int .i64 (ws.getD k default).2]) := Lib.hid (by
        rw [pages_take ws k hlt, ← List.append_assoc, rowOf_append, rowOf_one]
        rfl)
      have hbs := hb.out.size
      clear x0 x1
      generalize (ws.getD k default).1 = tx at *
      generalize (ws.getD k default).2 = px at *
      generalize rowOf ncells (CL.srt l ++ (pagesOf ws).take k) = row at *
      go_wp2_with (at_builtin; refine wpList_append_own _ rfl _ _ 22 rfl w.heap.size 3 i0 _ 1 8 Tryz.underlying22 hi0 hz0 hz1 hz2 rfl (by omega) _ (l.length + k) row rfl ((ho.out.alloc _).alloc _) ⟨wr.heap.size + 1, 0, none⟩ 1 1 [.int .i64 px] rfl rfl ?c2 ?c3 ?c4 ?c5 ?c6 ?_; (case c2 => intro j u hu; have e9 := new_cells (wr.alloc (.cells #[.int .i64 tx, .int .i64 px] 81)) [.int .i64 px] 3 j u hu; rw [World.size_alloc] at e9; exact e9); (case c3 => simp [Value.oneCell']); (case c4 => unfold maxLen; omega); (case c5 => omega); (case c6 => simp; omega); intro v4 w4 hown4 hgr4 _; have H4 := Lib.hid hown4; have HB4 : Hid (Below w.heap.size w w4) := Lib.hid (((hb.out.alloc hb.out.size _).alloc (by simp; omega) _).grown hgr4 (by simp; omega) (fun k hk => (ho.out.lt k hk).1)); clear hown4 hgr4)
      go_roundw
      case rel => exact ⟨_, _, _, ⟨k + 1, by omega, by go_num, by rw [HTK.out]; exact H4⟩, rfl, rfl, rfl⟩
      case measure => simp [intOf]; omega
    · obtain rfl : k = ws.length := by omega
      have hpl : (pagesOf ws).take ws.length = pagesOf ws := List.take_of_length_le (by simp [pagesOf])
      have hlen : (CL.srt l ++ pagesOf ws).length = l.length + ws.length := by rw [List.length_append, CL.srt_length]; simp [pagesOf]
      have hrow : wr.ownsRow w.heap.size 3 1 u3 (CL.srt l ++ pagesOf ws).length ((CL.srt l ++ pagesOf ws).map (Value.int .i64)) := by
        rw [hlen, ← rowOf_map]
        have := ho.out
        rwa [hpl] at this
      have HS := Lib.hid (sort_own w.heap.size u3 (CL.srt l ++ pagesOf ws) wr (by omega) hrow)
      have HLT := Lib.hid (fun k hk => (hrow.lt k hk).1)
      have hsrt : CL.srt (CL.srt l ++ pagesOf ws) = CL.srt (l ++ pagesOf ws) := CL.srt_of_perm ((CL.srt_perm l).append_right _)
      rw [hsrt, hlen] at HS
      clear hrow ho hpl hlen hsrt
      go_wp2_with fail
      refine HS.out.mono ?_
      rintro e w2 ⟨rfl, ho2, hg2⟩
      have HO2 := Lib.hid ho2
      have HB2 : Hid (Below w.heap.size w w2) := Lib.hid (hb.out.grown hg2 hb.out.size HLT.out)
      clear ho2 hg2
      go_wp2
      go_ret
      exact ⟨u3, rfl, by rw [rowOf_map]; exact HO2.out, HB2.out⟩
end
end Go.Proofs.YtedcpckocedcoaaGreat
