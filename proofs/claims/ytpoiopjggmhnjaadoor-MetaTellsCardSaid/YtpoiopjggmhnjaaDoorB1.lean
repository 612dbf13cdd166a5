/- Merged texts: MRDev MRDevW MTellC MTellR MTellW MTellS. -/
import Derived.Test.YtpoiopjggmhnjaaDoorB2
import Derived.Deep.LoopGhost
/- arboretumref1.Dev: NewDev, Grow, Write, Read, of a device with power and without a fuse. -/
namespace Go.Proofs.YtpoiopjggmhnjaaDoor
open Go.RowKit

theorem info_rw : (Tryd.prog.info? 76).map (fun i => (i.zero, i.size, i.bytes)) = some (some (.agg #[.int .i64 0, .string ByteArray.empty]), 2, 24) := by kernel_rfl
theorem info_st : (Tryd.prog.info? 9).map (fun i => (i.zero, i.size, i.bytes)) = some (some (.string ByteArray.empty), 1, 16) := by kernel_rfl
theorem rw_T : RowT Tryd.prog 65 76 wcells 2 24 :=
  RowT.of Tryd.underlying65 info_rw rfl (by omega) wcells_length (fun x u hu => by
    simp only [wcells, List.mem_cons, List.not_mem_nil, or_false] at hu
    rcases hu with rfl | rfl <;> rfl) (by omega)
theorem st_T : RowT Tryd.prog 61 9 scells 1 16 :=
  RowT.of Tryd.underlying61 info_st rfl (by omega) scells_length (fun x u hu => by
    simp only [scells, List.mem_cons, List.not_mem_nil, or_false] at hu
    rcases hu with rfl; rfl) (by omega)

theorem owns_low {w : World} {base base' n : Nat} {e : TypeId} {size : Nat} {v : Value} {xs : List Value} (h : w.ownsRow base e size v n xs) (hb : base' ≤ base) : w.ownsRow base' e size v n xs := by
  refine ⟨h.1, ?_⟩
  rcases h.2 with e | ⟨g, c, cur, e, hbase, rest⟩
  · exact .inl e
  · exact .inr ⟨g, c, cur, e, by omega, rest⟩

/-- What it holds. -/
structure RDv (rb base : Nat) (lv wv : Value) (L : List ByteArray) (Ws : List Wr) (w : World) : Prop where
  c0 : w.cell? ⟨rb, 0, none⟩ = some (.int .i64 2)
  c1 : w.cell? ⟨rb, 1, none⟩ = some (.bool true)
  c2 : w.cell? ⟨rb, 2, none⟩ = some lv
  c3 : w.cell? ⟨rb, 3, none⟩ = some wv
  c4 : w.cell? ⟨rb, 4, none⟩ = some (.int .i64 (-1))
  f2 : w.frozen? ⟨rb, 2, none⟩ = false
  f3 : w.frozen? ⟨rb, 3, none⟩ = false
  lo : w.ownsRow base 9 1 lv L.length (rowOf scells L)
  wo : w.ownsRow base 76 2 wv Ws.length (rowOf wcells Ws)
  ln : lv.ownBlock ≠ some rb
  wn : wv.ownBlock ≠ some rb
  bs : base ≤ w.heap.size
  bb : base ≤ rb
def rdF (rb : Nat) (lv wv : Value) (k : Nat) : Prop := k = rb ∨ lv.ownBlock = some k ∨ wv.ownBlock = some k

section
variable {rb base : Nat} {lv wv : Value} {L : List ByteArray} {Ws : List Wr} {w w' : World}
theorem RDv.keep (h : RDv rb base lv wv L Ws w) {S : Nat → Prop} (hF : Fr S w w') (hS : ∀ k, rdF rb lv wv k → ¬ S k) : RDv rb base lv wv L Ws w' := by
  have hlt := cell_lt h.c0
  have h1 : ¬ S rb := hS rb (.inl rfl)
  have hc : ∀ o, w'.cell? ⟨rb, o, none⟩ = w.cell? ⟨rb, o, none⟩ := fun o => hF.cell (p := ⟨rb, o, none⟩) hlt h1
  have hf : ∀ o, w'.frozen? ⟨rb, o, none⟩ = w.frozen? ⟨rb, o, none⟩ := fun o => hF.frozen (p := ⟨rb, o, none⟩) hlt h1
  exact ⟨(hc 0).trans h.c0, (hc 1).trans h.c1, (hc 2).trans h.c2, (hc 3).trans h.c3, (hc 4).trans h.c4, (hf 2).trans h.f2, (hf 3).trans h.f3, hF.owns h.lo (fun g hg => hS g (.inr (.inl hg))), hF.owns h.wo (fun g hg => hS g (.inr (.inr hg))), h.ln, h.wn, Nat.le_trans h.bs hF.size, h.bb⟩
theorem RDv.below (h : RDv rb base lv wv L Ws w) (hb : Below w.heap.size w w') : RDv rb base lv wv L Ws w' := h.keep (S := fun _ => False) (Fr.of_all hb) (fun _ _ h => h)
theorem RDv.lt (h : RDv rb base lv wv L Ws w) : ∀ k, rdF rb lv wv k → base ≤ k ∧ k < w.heap.size := by
  rintro k (rfl | e | e)
  · exact ⟨h.bb, cell_lt h.c0⟩
  · exact h.lo.lt k e
  · exact h.wo.lt k e
/-- A new row of pages. -/
theorem RDv.set2 {W : World} {u : Value} {L' : List ByteArray} (h : RDv rb base lv wv L Ws w) (hW : Below w.heap.size w W) (ho : W.ownsRow w.heap.size 9 1 u L'.length (rowOf scells L')) :
    RDv rb base u wv L' Ws (W.setCell ⟨rb, 2, none⟩ u) ∧ Fr (fun k => k = rb) w (W.setCell ⟨rb, 2, none⟩ u) := by
  have hlt : rb < w.heap.size := cell_lt h.c0
  have hF : Fr (fun k => k = rb) w (W.setCell ⟨rb, 2, none⟩ u) := (Fr.of_all (S := fun k => k = rb) hW).setCell (p := ⟨rb, 2, none⟩) (fun _ => rfl) _
  have hK := h.below hW
  have hne : ∀ o, o ≠ 2 → (W.setCell ⟨rb, 2, none⟩ u).cell? ⟨rb, o, none⟩ = W.cell? ⟨rb, o, none⟩ := fun o ho => World.cell?_setCell_other _ _ _ _ (by intro e; injection e with _ e _; omega)
  have hub : ∀ g, u.ownBlock = some g → g ≠ rb := fun g hg e => by have := (ho.lt g hg).1; omega
  have hS : Fr (fun k => k = rb) W (W.setCell ⟨rb, 2, none⟩ u) := (Fr.refl (fun k => k = rb) W).setCell (p := ⟨rb, 2, none⟩) (fun _ => rfl) _
  exact ⟨⟨(hne 0 (by omega)).trans hK.c0, (hne 1 (by omega)).trans hK.c1, cell_set_same _ _ _ _ hK.c2, (hne 3 (by omega)).trans hK.c3, (hne 4 (by omega)).trans hK.c4, by rw [frozen_set]; exact hK.f2, by rw [frozen_set]; exact hK.f3, hS.owns (owns_low ho h.bs) hub, hS.owns hK.wo (fun g hg e => h.wn (by rw [hg, e])), fun e => hub rb e rfl, h.wn, by have := hF.size; exact Nat.le_trans h.bs this, h.bb⟩, hF⟩
/-- A new row of writes. -/
theorem RDv.set3 {W : World} {u : Value} {Ws' : List Wr} (h : RDv rb base lv wv L Ws w) (hW : Below w.heap.size w W) (ho : W.ownsRow w.heap.size 76 2 u Ws'.length (rowOf wcells Ws')) :
    RDv rb base lv u L Ws' (W.setCell ⟨rb, 3, none⟩ u) ∧ Fr (fun k => k = rb) w (W.setCell ⟨rb, 3, none⟩ u) := by
  have hlt : rb < w.heap.size := cell_lt h.c0
  have hF : Fr (fun k => k = rb) w (W.setCell ⟨rb, 3, none⟩ u) := (Fr.of_all (S := fun k => k = rb) hW).setCell (p := ⟨rb, 3, none⟩) (fun _ => rfl) _
  have hK := h.below hW
  have hne : ∀ o, o ≠ 3 → (W.setCell ⟨rb, 3, none⟩ u).cell? ⟨rb, o, none⟩ = W.cell? ⟨rb, o, none⟩ := fun o ho => World.cell?_setCell_other _ _ _ _ (by intro e; injection e with _ e _; omega)
  have hub : ∀ g, u.ownBlock = some g → g ≠ rb := fun g hg e => by have := (ho.lt g hg).1; omega
  have hS : Fr (fun k => k = rb) W (W.setCell ⟨rb, 3, none⟩ u) := (Fr.refl (fun k => k = rb) W).setCell (p := ⟨rb, 3, none⟩) (fun _ => rfl) _
  exact ⟨⟨(hne 0 (by omega)).trans hK.c0, (hne 1 (by omega)).trans hK.c1, (hne 2 (by omega)).trans hK.c2, cell_set_same _ _ _ _ hK.c3, (hne 4 (by omega)).trans hK.c4, by rw [frozen_set]; exact hK.f2, by rw [frozen_set]; exact hK.f3, hS.owns hK.lo (fun g hg e => h.ln (by rw [hg, e])), hS.owns (owns_low ho h.bs) hub, h.ln, fun e => hub rb e rfl, by have := hF.size; exact Nat.le_trans h.bs this, h.bb⟩, hF⟩
end

set_option maxRecDepth 100000 in
theorem rdv_new (w : World) : Calls Tryd.prog 14 #[.int .i64 2] w fun e w' => e = .returned (.tuple #[.pointer (some ⟨w.heap.size, 0, none⟩), .int .i64 0]) ∧ RDv w.heap.size w.heap.size (.slice none 0 0) (.slice none 0 0) [] [] w' ∧ Below w.heap.size w w' := by
  have hc := heap_alloc_new w (.cells #[.int .i64 2, .bool true, .slice none 0 0, .slice none 0 0, .int .i64 (-1)] 67)
  have cc : ∀ k v, (#[Value.int .i64 2, .bool true, .slice none 0 0, .slice none 0 0, .int .i64 (-1)])[k]? = some v → (w.alloc (.cells #[.int .i64 2, .bool true, .slice none 0 0, .slice none 0 0, .int .i64 (-1)] 67)).cell? ⟨w.heap.size, k, none⟩ = some v := fun k v hv => by
    rw [cell_of_row _ _ _ _ _ _ hc]; exact hv
  have HR : Hid (RDv w.heap.size w.heap.size (.slice none 0 0) (.slice none 0 0) [] [] (w.alloc (.cells #[.int .i64 2, .bool true, .slice none 0 0, .slice none 0 0, .int .i64 (-1)] 67))) := Lib.hid
    ⟨cc 0 _ rfl, cc 1 _ rfl, cc 2 _ rfl, cc 3 _ rfl, cc 4 _ rfl, frozen_of_row _ _ _ _ _ hc, frozen_of_row _ _ _ _ _ hc, World.ownsRow_nil _ _ _ _, World.ownsRow_nil _ _ _ _, (fun h => by cases h), (fun h => by cases h), by simp, Nat.le_refl _⟩
  clear hc cc
  go_enter Tryd.func14, Tryd.ntmps14
  go_wp2
  go_ret2
  exact ⟨rfl, HR.out, (Below.refl _ _).alloc (Nat.le_refl _) _⟩

set_option maxRecDepth 100000 in
theorem rdv_op {rb base : Nat} {lv wv : Value} {L : List ByteArray} {Ws : List Wr} {w : World} (h : RDv rb base lv wv L Ws w) : Calls Tryd.prog 37 #[.pointer (some ⟨rb, 0, none⟩)] w fun e w' => e = .returned (.tuple #[.bool true, .bool true]) ∧ w' = w := by
  have c1 := h.c1
  have c4 := h.c4
  clear h
  go_enter Tryd.func37, Tryd.ntmps37
  go_wp2
  go_ret2
  exact ⟨rfl, rfl⟩

/-- A page as it is now. -/
def nowOf (L : List ByteArray) (Ws : List Wr) (k : Nat) : ByteArray := Ws.foldl (fun s x => if x.1 = (k : Int) then x.2 else s) (L.getD k default)
theorem nowOf_take {L : List ByteArray} {Ws : List Wr} {k i : Nat} (hi : i < Ws.length) : nowOf L (Ws.take (i + 1)) k = if (Ws.getD i default).1 = (k : Int) then (Ws.getD i default).2 else nowOf L (Ws.take i) k := by
  unfold nowOf
  rw [List.take_succ_eq_append_getElem hi, List.foldl_append]
  simp [List.getD, List.getElem?_eq_getElem hi]

set_option maxHeartbeats 1000000 in
set_option maxRecDepth 100000 in
theorem rdv_now {rb base : Nat} {lv wv : Value} {L : List ByteArray} {Ws : List Wr} {w : World} (k : Nat) (h : RDv rb base lv wv L Ws w) (hk : k < L.length) (hl : Ws.length ≤ 100000) :
    Calls Tryd.prog 61 #[.pointer (some ⟨rb, 0, none⟩), .int .i64 k] w fun e w' => e = .returned (.string (nowOf L Ws k)) ∧ w' = w := by
  obtain ⟨g, cap, hv, hg1, hg2, hg3⟩ := owns_len h.lo (by omega)
  obtain ⟨wp, wc, hw⟩ := owns_slice h.wo
  have HWO := Lib.hid h.wo
  have c2 := h.c2
  have c3 := h.c3
  have hx : w.cell? ⟨g, k, none⟩ = some (.string (L.getD k default)) := by
    have r0 := rowOf_at scells scells_length L k 0 hk (by omega)
    rw [Nat.mul_one, Nat.add_zero] at r0
    have hlo := h.lo
    rw [hv] at hlo
    exact (hlo.cellAt k (by omega)).trans r0
  subst hv hw
  have H0 : Hid (nowOf L (Ws.take 0) k = L.getD k default) := Lib.hid (by simp [nowOf])
  have HE : Hid (nowOf L (Ws.take Ws.length) k = nowOf L Ws k) := Lib.hid (by rw [List.take_length])
  have HN : Hid (∀ i, i < Ws.length → nowOf L (Ws.take (i + 1)) k = if (Ws.getD i default).1 = (k : Int) then (Ws.getD i default).2 else nowOf L (Ws.take i) k) := Lib.hid (fun i hi => nowOf_take hi)
  have HCW : Hid (∀ i, i < Ws.length → ∃ gw, wp = some ⟨gw, 0, none⟩ ∧ w.cell? ⟨gw, i * 2, none⟩ = some (.int .i64 (Ws.getD i default).1) ∧ w.cell? ⟨gw, i * 2 + 1, none⟩ = some (.string (Ws.getD i default).2)) := Lib.hid (fun i hi => by
    obtain ⟨gw, cap2, hv2, _, _, _⟩ := owns_len HWO.out (by omega)
    injection hv2 with e1 _ e3
    subst e1 e3
    have r0 := rowOf_at wcells wcells_length Ws i 0 hi (by omega)
    have r1 := rowOf_at wcells wcells_length Ws i 1 hi (by omega)
    exact ⟨gw, rfl, ((HWO.out.cellAt (i * 2) (by omega)).trans r0), ((HWO.out.cellAt (i * 2 + 1) (by omega)).trans r1)⟩)
  generalize nowOf L Ws k = fin at *
  generalize hn : (fun i => nowOf L (Ws.take i) k) = nf at *
  have HNF : Hid (∀ i, nf i = nowOf L (Ws.take i) k) := Lib.hid (fun i => by rw [← hn])
  clear h hn HWO hg1 hg2 hg3
  have H0' : Hid (nf 0 = L.getD k default) := Lib.hid ((HNF.out 0).trans H0.out)
  have HE' : Hid (nf Ws.length = fin) := Lib.hid ((HNF.out _).trans HE.out)
  have HN' : Hid (∀ i, i < Ws.length → nf (i + 1) = if (Ws.getD i default).1 = (k : Int) then (Ws.getD i default).2 else nf i) := Lib.hid (fun i hi => by rw [HNF.out, HNF.out]; exact HN.out i hi)
  clear H0 HE HN HNF
  generalize L.getD k default = s0 at *
  go_enter Tryd.func61, Tryd.ntmps61
  go_wp2
  go_loopg [5, 6] Ws.length (fun gk sv iv wr => ∃ i : Nat, gk = Ws.length - i ∧ i ≤ Ws.length ∧ iv = .int .i64 i ∧ sv = .string (nf i) ∧ wr = w)
  case atStart => exact ⟨0, by omega, Nat.zero_le _, rfl, by rw [H0'.out], rfl⟩
  case round =>
    obtain ⟨i, hgk, hi, rfl, rfl, hwr⟩ := hrel
    subst hgk hwr
    by_cases hlt : i < Ws.length
    · have hltI : (i : Int) < (Ws.length : Int) := by omega
      obtain ⟨gw, hwp, x0, x1⟩ := HCW.out i hlt
      have HS := Lib.hid (HN'.out i hlt)
      subst hwp
      generalize Ws.getD i default = x at *
      obtain ⟨xk, xs⟩ := x
      simp only at x0 x1
      by_cases he : xk = (k : Int)
      · have HS2 : Hid (nf (i + 1) = xs) := Lib.hid (by rw [HS.out, if_pos he])
        subst he
        have hq : ((k : Int) == (k : Int)) = true := by simp
        clear HS
        go_wp2
        go_roundg (Ws.length - (i + 1))
        case measure => omega
        case rel => exact ⟨i + 1, rfl, by omega, by go_num, by rw [HS2.out], rfl⟩
      · have HS2 : Hid (nf (i + 1) = nf i) := Lib.hid (by rw [HS.out, if_neg he])
        have hq : (xk == (k : Int)) = false := by rw [beq_eq_false_iff_ne]; exact he
        clear HS he
        go_wp2
        go_roundg (Ws.length - (i + 1))
        case measure => omega
        case rel => exact ⟨i + 1, rfl, by omega, by go_num, by rw [HS2.out], rfl⟩
    · obtain rfl : i = Ws.length := by omega
      rw [HE'.out]
      go_wp2
      go_ret
      exact ⟨rfl, rfl⟩

set_option maxRecDepth 100000 in
theorem rdv_read {rb base : Nat} {lv wv : Value} {L : List ByteArray} {Ws : List Wr} {w : World} (k : Nat) (h : RDv rb base lv wv L Ws w) (hk : k < L.length) (hl : Ws.length ≤ 100000) :
    Calls Tryd.prog 41 #[.pointer (some ⟨rb, 0, none⟩), .int .i64 k] w fun e w' => e = .returned (.tuple #[.string (nowOf L Ws k), .int .i64 0]) ∧ w' = w := by
  have HN := Lib.hid (rdv_now k h hk hl)
  obtain ⟨lp, lc, hv⟩ := owns_slice h.lo
  have c1 := h.c1
  have c2 := h.c2
  subst hv
  have hkI : ¬ (L.length : Int) ≤ (k : Int) := by omega
  have hd : decide (L.length ≤ k) = false := by simpa using hk
  clear h
  go_enter Tryd.func41, Tryd.ntmps41
  go_wp2_with fail
  refine HN.out.mono ?_
  rintro e w' ⟨rfl, rfl⟩
  go_wp2
  go_ret2
  exact ⟨rfl, rfl⟩

set_option maxRecDepth 100000 in
theorem rdv_read_out {rb base : Nat} {lv wv : Value} {L : List ByteArray} {Ws : List Wr} {w : World} (k : Nat) (h : RDv rb base lv wv L Ws w) (hk : L.length ≤ k) :
    Calls Tryd.prog 41 #[.pointer (some ⟨rb, 0, none⟩), .int .i64 k] w fun e w' => e = .returned (.tuple #[.string ByteArray.empty, .int .i64 3]) ∧ w' = w := by
  obtain ⟨lp, lc, hv⟩ := owns_slice h.lo
  have c1 := h.c1
  have c2 := h.c2
  subst hv
  have hd : decide (L.length ≤ k) = true := by simpa using hk
  have hkI : (L.length : Int) ≤ (k : Int) := by omega
  clear h
  go_enter Tryd.func41, Tryd.ntmps41
  go_wp2
  go_ret2
  exact ⟨rfl, rfl⟩
end Go.Proofs.YtpoiopjggmhnjaaDoor

/- arboretumref1.Dev: Grow, Write. -/
namespace Go.Proofs.YtpoiopjggmhnjaaDoor
open Go.RowKit

theorem zeros_page : (⟨(List.replicate 256 (0 : UInt8)).toArray⟩ : ByteArray) = page0 := by kernel_rfl

theorem one_cells (w : World) (f : List Value) (t : TypeId) {α : Type} (g : α → List Value) (x : α) (hg : g x = f) : RdG g (w.alloc (.cells f.toArray t)) (w.alloc (.cells f.toArray t)).heap.size (some ⟨w.heap.size, 0, none⟩) 1 [x] :=
  ⟨rfl, fun _ => ⟨w.heap.size, 0, rfl, by simp, fun j u hu => by
    rw [rowOf_one, hg] at hu
    have e := new_cells w f t j u hu
    rw [add_at0] at e
    rw [Nat.zero_add]
    exact e⟩⟩

set_option maxHeartbeats 2000000 in
set_option maxRecDepth 100000 in
theorem rdv_grow {rb base : Nat} {wv : Value} {Ws : List Wr} {w : World} (n : Nat) (h : RDv rb base (.slice none 0 0) wv [] Ws w) (hn : n ≤ 2) :
    Calls Tryd.prog 16 #[.pointer (some ⟨rb, 0, none⟩), .int .i64 n] w fun e w' => e = .returned (.int .i64 0) ∧ ∃ lv', RDv rb base lv' wv (List.replicate n page0) Ws w' ∧ Fr (fun k => k = rb) w w' ∧ ∀ g, lv'.ownBlock = some g → w.heap.size ≤ g := by
  have HOP := Lib.hid (rdv_op h)
  have H := Lib.hid h
  have c0 := h.c0
  have c2 := h.c2
  obtain ⟨i0, hi0, hm0, hm1, hm2⟩ := info_parts info_u8
  have hrz : ∀ j, j < 256 → (madeCells (Value.int .u8 0).cells (256 * 1)).toList[j]? = some (Value.int .u8 (((List.replicate 256 (0 : UInt8))[j]?.getD 0).toNat : Int)) := fun j hj2 => by
    have e3 : (Value.int .u8 0).cells = #[Value.int .u8 0] := rfl
    rw [e3, toList_madeCells_one, Nat.mul_one, List.getElem?_replicate, if_pos hj2, List.getElem?_replicate, if_pos hj2]
    rfl
  have HRZ := Lib.hid hrz
  have HLZ : Hid ((List.replicate 256 (0 : UInt8)).length = 256) := Lib.hid List.length_replicate
  have HZP := Lib.hid zeros_page
  have HNIL : Hid (∀ W : World, RdG scells W W.heap.size none 0 []) := Lib.hid (fun W => ⟨rfl, fun h => absurd h (Nat.lt_irrefl _)⟩)
  have HSU : Hid (∀ k, rowOf scells (List.replicate (k + 1) page0) = rowOf scells (List.replicate k page0) ++ rowOf scells [page0]) := Lib.hid (fun k => by rw [← rowOf_append, List.replicate_succ'])
  clear h hrz
  generalize hL : List.replicate 256 (0 : UInt8) = LL at *
  clear hL
  go_enter Tryd.func16, Tryd.ntmps16
  go_wp2_with fail
  refine HOP.out.mono ?_
  rintro e w1 ⟨rfl, rfl⟩
  go_wp2_with (at_builtin; refine RowT.app st_T rfl _ _ rfl w1.heap.size (.slice none 0 0) 0 [] rfl (World.ownsRow_nil _ _ _ _) (m := 0) (zs := []) (B := w1.heap.size) rfl (HNIL.out _) (fun _ => rfl) (by omega) (Nat.le_refl _) ?_; intro v3 w3 hown3 hgr3 _; have HB3 := Lib.hid ((Below.refl w1.heap.size w1).grown hgr3 (Nat.le_refl _) (fun j hj => by cases hj)); have HO3 : Hid (w3.ownsRow w1.heap.size 9 1 v3 0 (rowOf scells (List.replicate 0 page0))) := Lib.hid hown3; clear hown3 hgr3)
  clear c0 c2
  go_loopg [7] n (fun gk lv wr => ∃ k : Nat, gk = n - k ∧ k ≤ n ∧ ∃ lp lc, lv = .slice lp k lc ∧ Hid (wr.ownsRow w1.heap.size 9 1 (.slice lp k lc) k (rowOf scells (List.replicate k page0)) ∧ Below w1.heap.size w1 wr))
  case atStart =>
    obtain ⟨lp, lc, hv⟩ := owns_slice HO3.out
    exact ⟨0, by omega, Nat.zero_le _, lp, lc, hv, Lib.hid ⟨by rw [← hv]; exact HO3.out, HB3.out⟩⟩
  case round =>
    clear HO3 HB3
    obtain ⟨k, hgk, hk, lp, lc, rfl, HR⟩ := hrel
    subst hgk
    by_cases hlt : k < n
    · have hltI : (k : Int) < (n : Int) := by omega
      go_wp2_with (first
        | (refine wpList_make_full _ rfl _ _ _ rfl wr.heap.size 5 i0 _ 1 Tryd.underlying29 hi0 hm0 hm1 .i64 .i64 _ _ 256 rfl rfl ?l1 ?l2 (by rw [hm2]; omega) (by unfold maxLen; omega) (Nat.le_refl _) ?_; (case l1 => rfl); (case l2 => rfl); intro w5 how hgr; have HO := Lib.hid how; have HG := Lib.hid hgr; clear how hgr; have HB5 : Hid (Below wr.heap.size wr w5) := Lib.hid ((Below.refl wr.heap.size wr).grown HG.out (Nat.le_refl _) (fun k hk => by cases hk)); have hcv : (convert 29 9 (.slice (some ⟨wr.heap.size, 0, none⟩) 256 256)).run Tryd.prog w5 = .ok (.string page0) w5 := (by
            have e := run_convert_bytes_back (P := Tryd.prog) w5 29 9 5 ⟨wr.heap.size, 0, none⟩ 256 LL Tryd.underlying29 Tryd.underlying5 Tryd.underlying9 (fun j hj => by
              refine HO.out.cells (g := wr.heap.size) rfl j _ ?_
              rw [HRZ.out j (by rw [HLZ.out] at hj; exact hj), List.getElem?_eq_getElem hj]
              rfl)
            rw [HLZ.out, HZP.out] at e
            exact e); have HO5 := Lib.hid ((Fr.of_all (S := fun _ => False) HB5.out).owns HR.out.1 (fun _ _ h => h)); have hs5 := HB5.out.size)
        | (at_builtin; refine RowT.app st_T rfl _ _ rfl w1.heap.size (.slice lp k lc) k (rowOf scells (List.replicate k page0)) rfl (HO5.out.alloc _) (m := 1) (zs := [page0]) rfl (one_cells w5 [.string page0] 9 scells page0 rfl) (fun h => by cases h) (by omega) (by have := HR.out.2.size; simp; omega) ?_; intro v6 w6 hown6 hgr6 _; have HO6 : Hid (w6.ownsRow w1.heap.size 9 1 v6 (k + 1) (rowOf scells (List.replicate (k + 1) page0))) := Lib.hid (by rw [HSU.out]; exact hown6); have HB6 : Hid (Below w1.heap.size w1 w6) := Lib.hid (((HR.out.2.trans (HB5.out.mono HR.out.2.size)).alloc (by have := HR.out.2.size; omega) (.cells #[.string page0] 9)).grown hgr6 (by have := HR.out.2.size; simp; omega) (fun j hj => (HR.out.1.lt j hj).1)); clear hown6 hgr6))
      obtain ⟨lp6, lc6, hv6⟩ := owns_slice HO6.out
      subst hv6
      go_wp2
      go_roundg (n - (k + 1))
      case measure => omega
      case rel => exact ⟨k + 1, rfl, by omega, _, _, rfl, Lib.hid ⟨HO6.out, HB6.out⟩⟩
    · obtain rfl : k = n := by omega
      have hx := H.out.below HR.out.2
      have c2 := hx.c2
      have f2 := hx.f2
      have hset := H.out.set2 (L' := List.replicate k page0) HR.out.2 (by rw [List.length_replicate]; exact HR.out.1)
      have HSET := Lib.hid hset
      clear hx hset
      go_wp2
      go_ret
      exact ⟨rfl, _, HSET.out.1, HSET.out.2, fun g hg => (HR.out.1.lt g hg).1⟩

set_option maxHeartbeats 2000000 in
set_option maxRecDepth 100000 in
theorem rdv_write {rb base : Nat} {lv wv : Value} {L : List ByteArray} {Ws : List Wr} {w : World} (k : Nat) (s : ByteArray) (h : RDv rb base lv wv L Ws w) (hk : k < L.length) (hs : s.size = 256) (hw : Ws.length ≤ 1000) :
    Calls Tryd.prog 18 #[.pointer (some ⟨rb, 0, none⟩), .int .i64 k, .string s] w fun e w' => e = .returned (.int .i64 0) ∧ ∃ wv', RDv rb base lv wv' L (Ws ++ [((k : Int), s)]) w' ∧ Fr (fun k => k = rb) w w' ∧ ∀ g, wv'.ownBlock = some g → w.heap.size ≤ g := by
  have HOP := Lib.hid (rdv_op h)
  have H := Lib.hid h
  have c2 := h.c2
  have c3 := h.c3
  obtain ⟨lp, lc, hlv⟩ := owns_slice h.lo
  obtain ⟨wp, wc, hwv⟩ := owns_slice h.wo
  subst hlv hwv
  have HNIL : Hid (wp = none → wc = 0) := Lib.hid (fun e => by
    rcases h.wo.2 with ⟨h1, _⟩ | ⟨_, _, _, h1, _⟩
    · injection h1
    · injection h1 with h1 _ _
      rw [h1] at e
      cases e)
  have HRD : Hid (RdG wcells w w.heap.size wp Ws.length Ws) := Lib.hid (RdG.of_own (f := wcells) h.wo rfl)
  have hkI : ¬ (L.length : Int) ≤ (k : Int) := by omega
  have hd : decide (L.length ≤ k) = false := by simpa using hk
  have hlen : ((s.size : Int) != 256) = false := by rw [hs]; rfl
  have HAP : Hid (rowOf wcells (Ws ++ [((k : Int), s)]) = rowOf wcells Ws ++ rowOf wcells [((k : Int), s)]) := Lib.hid (rowOf_append _ _ _)
  clear h hs
  go_enter Tryd.func18, Tryd.ntmps18
  go_wp2_with fail
  refine HOP.out.mono ?_
  rintro e w1 ⟨rfl, rfl⟩
  go_wp2_with (first
    | (at_builtin; refine RowT.app rw_T rfl _ _ rfl w1.heap.size (.slice none 0 0) 0 [] rfl (World.ownsRow_nil _ _ _ _) (m := Ws.length) (zs := Ws) (B := w1.heap.size) rfl HRD.out HNIL.out (by omega) (Nat.le_refl _) ?_; intro v3 w3 hown3 hgr3 _; rw [Nat.zero_add, List.nil_append] at hown3; have HB3 := Lib.hid ((Below.refl w1.heap.size w1).grown hgr3 (Nat.le_refl _) (fun j hj => by cases hj)); have HO3 := Lib.hid hown3; have hs3 := HB3.out.size; obtain ⟨p3, d3, hv3⟩ := owns_slice hown3; subst hv3; clear hown3 hgr3)
    | (at_builtin; refine RowT.app rw_T rfl _ _ rfl w1.heap.size (.slice p3 Ws.length d3) Ws.length (rowOf wcells Ws) rfl (HO3.out.alloc _) (m := 1) (zs := [((k : Int), s)]) rfl (one_cells w3 [.int .i64 k, .string s] 76 wcells ((k : Int), s) rfl) (fun h => by cases h) (by omega) (by simp; omega) ?_; intro v6 w6 hown6 hgr6 _; have HO6 : Hid (w6.ownsRow w1.heap.size 76 2 v6 (Ws ++ [((k : Int), s)]).length (rowOf wcells (Ws ++ [((k : Int), s)]))) := Lib.hid (by rw [HAP.out, List.length_append]; exact hown6); have HB6 : Hid (Below w1.heap.size w1 w6) := Lib.hid ((HB3.out.alloc hs3 (.cells #[.int .i64 k, .string s] 76)).grown hgr6 (by simp; omega) (fun j hj => (HO3.out.lt j hj).1)); have hset := H.out.set3 HB6.out HO6.out; have HSET := Lib.hid hset; have c3 := (H.out.below HB6.out).c3; have f3 := (H.out.below HB6.out).f3; obtain ⟨p6, d6, hv6⟩ := owns_slice HO6.out; subst hv6; clear hown6 hgr6 hset))
  go_wp2
  go_ret
  obtain ⟨e1, e2⟩ := HSET.out
  have e3 := fun g hg => (HO6.out.lt g hg).1
  simp only [List.length_append, List.length_singleton] at e1 e2 e3
  exact ⟨rfl, _, e1, e2, e3⟩

set_option maxRecDepth 100000 in
theorem rdv_write_out {rb base : Nat} {lv wv : Value} {L : List ByteArray} {Ws : List Wr} {w : World} (k : Nat) (s : ByteArray) (h : RDv rb base lv wv L Ws w) (hk : L.length ≤ k) :
    Calls Tryd.prog 18 #[.pointer (some ⟨rb, 0, none⟩), .int .i64 k, .string s] w fun e w' => e = .returned (.int .i64 3) ∧ w' = w := by
  have HOP := Lib.hid (rdv_op h)
  have c2 := h.c2
  obtain ⟨lp, lc, hlv⟩ := owns_slice h.lo
  subst hlv
  have hd : decide (L.length ≤ k) = true := by simpa using hk
  have hkI : (L.length : Int) ≤ (k : Int) := by omega
  clear h
  go_enter Tryd.func18, Tryd.ntmps18
  go_wp2_with fail
  refine HOP.out.mono ?_
  rintro e w1 ⟨rfl, rfl⟩
  go_wp2
  go_ret
  exact ⟨rfl, rfl⟩
end Go.Proofs.YtpoiopjggmhnjaaDoor

/- meta: Choose by what Get answers; of a device of one page. -/
namespace Go.Proofs.YtpoiopjggmhnjaaDoor
open Go.RowKit

set_option maxHeartbeats 4000000 in
set_option maxRecDepth 100000 in
theorem meta_choose_g {db base : Nat} {m0 lf : Int} {fu : Bool} {sy nw : List ByteArray} {ws : List Wr} {F : Nat → Prop} {w : World} (r : Nat → Option Mt) (h : Dv db base m0 true fu lf sy nw ws F w) (hn : 2 ≤ nw.length) (hr : ∀ k : Nat, k < 2 → ∀ W, Calls Tryd.prog 11 #[.int .i64 k, .string (nw.getD k default)] W fun e w' => ∃ kk : Int, e = .returned (.tuple #[mtv ((r k).getD mt0), .int .i64 kk]) ∧ (kk == 0) = (r k).isSome ∧ Below W.heap.size W w') :
    Calls Tryd.prog 20 #[.pointer (some ⟨db, 0, none⟩)] w fun e w' => e = .returned (.tuple #[mtv ((chosen r 2).getD mt0), .int .i64 (chE (chosen r 2))]) ∧ Below w.heap.size w w' := by
  have HRD := Lib.hid (fun k (hk : k < 2) W (hb : Below w.heap.size w W) => dv_read k (h.keep (Fr.of_all (S := fun _ => False) hb) (fun _ _ h => h)) (by omega))
  have HG := Lib.hid (fun k (hk : k < 2) W => hr k hk W)
  clear h hn hr
  go_enter Tryd.func20, Tryd.ntmps20
  have h1 := MtB.fresh w mt0
  have h2 := MtB.fresh (w.alloc (.cells #[.int .i64 0, .int .i64 0, .int .i64 0, .int .i64 0] 23)) mt0
  rw [World.size_alloc] at h2
  have HR0 : Hid (ChR w none ((w.alloc (.cells #[.int .i64 0, .int .i64 0, .int .i64 0, .int .i64 0] 23)).alloc (.cells #[.int .i64 0, .int .i64 0, .int .i64 0, .int .i64 0] 23))) := Lib.hid ⟨h1.keep ((Fr.refl (fun _ => False) _).alloc _) (fun h => h), h2, ((Below.refl _ w).alloc (Nat.le_refl _) _).alloc (by simp) _⟩
  clear h1 h2
  go_wp2
  go_loopw [5, 10] (fun fd i wr => ∃ k : Nat, k ≤ 2 ∧ i = .int .i64 k ∧ fd = .bool (chosen r k).isSome ∧ Hid (ChR w (chosen r k) wr)) (fun _ i _ => 2 - (intOf i).toNat)
  case atStart => exact ⟨0, Nat.zero_le _, rfl, rfl, HR0⟩
  case round =>
    obtain ⟨k, hk, rfl, rfl, hrel⟩ := hrel
    by_cases hk2 : k < 2
    · have hbw := hrel.out.2.2
      have HD := Lib.hid (HRD.out k hk2 wr hbw)
      have HGK := Lib.hid (HG.out k hk2 wr)
      have hnx : Hid (chosen r (k + 1) = newer (chosen r k) (r k)) := Lib.hid rfl
      generalize nw.getD k default = page at *
      generalize chosen r k = b at *
      generalize hrk : r k = rk at *
      clear hrk
      have hszw := hbw.size
      have HRL : Hid (ChR w b wr) := hrel
      clear hrel hbw
      go_wp2_with fail
      refine HD.out.mono ?_
      rintro e w1 ⟨rfl, rfl⟩
      go_wp2_with fail
      refine HGK.out.mono ?_
      rintro e w2 ⟨kk, rfl, hkk, hb2⟩
      have hF2 : Fr (fun _ => False) w1 (w2.alloc (.cells #[.int .i64 (rk.getD mt0).txn, .int .i64 (rk.getD mt0).root, .int .i64 (rk.getD mt0).free, .int .i64 (rk.getD mt0).pages] 23)) := (Fr.of_all (S := fun _ => False) hb2).alloc _
      have hA := HRL.out.1.keep hF2 (fun h => h)
      have hB := HRL.out.2.1.keep hF2 (fun h => h)
      have hC := MtB.fresh w2 (rk.getD mt0)
      have hb3 : Below w.heap.size w (w2.alloc (.cells #[.int .i64 (rk.getD mt0).txn, .int .i64 (rk.getD mt0).root, .int .i64 (rk.getD mt0).free, .int .i64 (rk.getD mt0).pages] 23)) := HRL.out.2.2.trans ((hb2.alloc hb2.size _).mono hszw)
      have hw1 : w.heap.size + 1 < w2.heap.size := by
        have := cell_lt (HRL.out.2.1 0 (by omega)).1
        have := hb2.size
        simp at *
        omega
      obtain ⟨c0, c1, c2, c3⟩ := hC.cells
      obtain ⟨d0, d1, d2, d3⟩ := hB.cells
      have hB2 := HRL.out.2.1.keep (Fr.of_all (S := fun _ => False) hb2) (fun h => h)
      obtain ⟨f0, f1, f2, f3⟩ := hB2.cells
      have g0 := (hB2 0 (by omega)).2
      have g1 := (hB2 1 (by omega)).2
      have g2 := (hB2 2 (by omega)).2
      have g3 := (hB2 3 (by omega)).2
      clear hB2
      have e0 := (hB 0 (by omega)).2
      have e1 := (hB 1 (by omega)).2
      have e2 := (hB 2 (by omega)).2
      have e3 := (hB 3 (by omega)).2
      have HST : Hid (∀ m : Mt, ChR w (some m) (((((w2.setCell ⟨w.heap.size + 1, 0, none⟩ (.int .i64 m.txn)).setCell ⟨w.heap.size + 1, 1, none⟩ (.int .i64 m.root)).setCell ⟨w.heap.size + 1, 2, none⟩ (.int .i64 m.free)).setCell ⟨w.heap.size + 1, 3, none⟩ (.int .i64 m.pages)).alloc (.cells #[.int .i64 m.txn, .int .i64 m.root, .int .i64 m.free, .int .i64 m.pages] 23))) := Lib.hid (fun m => by
        have hF : Fr (fun _ => False) w1 w2 := Fr.of_all (S := fun _ => False) hb2
        have hFS : Fr (fun k => k = w.heap.size + 1) w2 ((((w2.setCell ⟨w.heap.size + 1, 0, none⟩ (.int .i64 m.txn)).setCell ⟨w.heap.size + 1, 1, none⟩ (.int .i64 m.root)).setCell ⟨w.heap.size + 1, 2, none⟩ (.int .i64 m.free)).setCell ⟨w.heap.size + 1, 3, none⟩ (.int .i64 m.pages)) := ((((Fr.refl (fun k => k = w.heap.size + 1) w2).setCell (p := ⟨w.heap.size + 1, 0, none⟩) (fun _ => rfl) _).setCell (p := ⟨w.heap.size + 1, 1, none⟩) (fun _ => rfl) _).setCell (p := ⟨w.heap.size + 1, 2, none⟩) (fun _ => rfl) _).setCell (p := ⟨w.heap.size + 1, 3, none⟩) (fun _ => rfl) _
        refine ⟨((HRL.out.1.keep hF (fun h => h)).keep hFS (by show ¬ w.heap.size = w.heap.size + 1; omega)).keep ((Fr.refl (fun _ => False) _).alloc _) (fun h => h), ((HRL.out.2.1.keep hF (fun h => h)).put (x := m)).keep ((Fr.refl (fun _ => False) _).alloc _) (fun h => h), ?_⟩
        have h9 : Below w.heap.size w ((((w2.setCell ⟨w.heap.size + 1, 0, none⟩ (.int .i64 m.txn)).setCell ⟨w.heap.size + 1, 1, none⟩ (.int .i64 m.root)).setCell ⟨w.heap.size + 1, 2, none⟩ (.int .i64 m.free)).setCell ⟨w.heap.size + 1, 3, none⟩ (.int .i64 m.pages)) := (HRL.out.2.2.trans (hb2.mono hszw)).trans (hFS.below (by omega) (fun i hi => by have : i = w.heap.size + 1 := hi; omega))
        exact h9.alloc h9.size _)
      have HAB := Lib.hid (And.intro hA (And.intro hB hb3))
      clear hA hB hC hb3 hF2 hb2 HRL
      unfold mtv
      cases rk with
      | none =>
        have hk0 : (kk == 0) = false := hkk
        have HN : Hid (chosen r (k + 1) = b) := Lib.hid hnx.out
        clear hkk hnx HST
        go_wp2
        go_roundw
        case rel => exact ⟨k + 1, by omega, by go_num, by rw [HN.out], by rw [HN.out]; exact Lib.hid HAB.out⟩
        case measure => simp [intOf]; omega
      | some m =>
        have hk0 : (kk == 0) = true := hkk
        cases b with
        | none =>
          simp only [Option.getD_some, Option.getD_none, Option.isSome_none] at c0 c1 c2 c3 d0 d1 d2 d3 e0 e1 e2 e3 f0 f1 f2 f3 ⊢
          have HN : Hid (chosen r (k + 1) = some m) := Lib.hid hnx.out
          clear hkk hnx
          go_wp2
          go_roundw
          case rel => exact ⟨k + 1, by omega, by go_num, by rw [HN.out]; rfl, by rw [HN.out]; exact Lib.hid (HST.out m)⟩
          case measure => simp [intOf]; omega
        | some x =>
          simp only [Option.getD_some, Option.isSome_some] at c0 c1 c2 c3 d0 d1 d2 d3 e0 e1 e2 e3 f0 f1 f2 f3 ⊢
          by_cases hlt : x.txn < m.txn
          · have HN : Hid (chosen r (k + 1) = some m) := Lib.hid (hnx.out.trans (by simp [newer, hlt]))
            have hl1 : (x.txn : Int) < m.txn := by omega
            clear hkk hnx
            go_wp2
            go_roundw
            case rel => exact ⟨k + 1, by omega, by go_num, by rw [HN.out]; rfl, by rw [HN.out]; exact Lib.hid (HST.out m)⟩
            case measure => simp [intOf]; omega
          · have HN : Hid (chosen r (k + 1) = some x) := Lib.hid (hnx.out.trans (by simp [newer, hlt]))
            have hl1 : ¬ (x.txn : Int) < m.txn := by omega
            clear hkk hnx HST
            go_wp2
            go_roundw
            case rel => exact ⟨k + 1, by omega, by go_num, by rw [HN.out]; rfl, by rw [HN.out]; exact Lib.hid HAB.out⟩
            case measure => simp [intOf]; omega
    · obtain rfl : k = 2 := by omega
      obtain ⟨hA, hB, hbw⟩ := hrel.out
      have HB := Lib.hid hbw
      have hszw := hbw.size
      obtain ⟨d0, d1, d2, d3⟩ := hB.cells
      obtain ⟨f0, f1, f2, f3⟩ := hA.cells
      have g0 := (hA 0 (by omega)).2
      have g1 := (hA 1 (by omega)).2
      have g2 := (hA 2 (by omega)).2
      have g3 := (hA 3 (by omega)).2
      have hlt : w.heap.size < wr.heap.size := cell_lt f0
      clear hA hB hbw hrel
      have HEND : Hid (∀ v0 v1 v2 v3 : Value, Below w.heap.size w ((((wr.setCell ⟨w.heap.size, 0, none⟩ v0).setCell ⟨w.heap.size, 1, none⟩ v1).setCell ⟨w.heap.size, 2, none⟩ v2).setCell ⟨w.heap.size, 3, none⟩ v3)) := Lib.hid (fun _ _ _ _ => (((HB.out.setCell (p := ⟨w.heap.size, 0, none⟩) (Nat.le_refl _) _).setCell (p := ⟨w.heap.size, 1, none⟩) (Nat.le_refl _) _).setCell (p := ⟨w.heap.size, 2, none⟩) (Nat.le_refl _) _).setCell (p := ⟨w.heap.size, 3, none⟩) (Nat.le_refl _) _)
      cases hb : chosen r 2 with
      | none =>
        simp only [Option.isSome_none]
        have HBE := Lib.hid hb
        clear hb d0 d1 d2 d3
        obtain ⟨x0, x1, x2, x3⟩ := cells4m (v0 := .int .i64 0) (v1 := .int .i64 0) (v2 := .int .i64 0) (v3 := .int .i64 0) f0 f1 f2 f3
        go_wp2
        exact bodyPost_ret (v := .tuple #[mtv mt0, .int .i64 15]) (by simp [results, Tryd.results20, go_sem, mtv, mt0, x0, x1, x2, x3]) rfl ⟨by first | (rw [HBE.out]; rfl) | rfl, HEND.out _ _ _ _⟩
      | some m =>
        simp only [Option.isSome_some]
        rw [hb] at d0 d1 d2 d3
        simp only [Option.getD_some] at d0 d1 d2 d3
        have HBE := Lib.hid hb
        clear hb
        obtain ⟨x0, x1, x2, x3⟩ := cells4m (v0 := .int .i64 m.txn) (v1 := .int .i64 m.root) (v2 := .int .i64 m.free) (v3 := .int .i64 m.pages) f0 f1 f2 f3
        go_wp2
        exact bodyPost_ret (v := .tuple #[mtv m, .int .i64 0]) (by simp [results, Tryd.results20, go_sem, mtv, x0, x1, x2, x3]) rfl ⟨by first | (rw [HBE.out]; rfl) | rfl, HEND.out _ _ _ _⟩

set_option maxHeartbeats 4000000 in
set_option maxRecDepth 100000 in
theorem meta_choose_one {db base : Nat} {m0 lf : Int} {fu : Bool} {sy nw : List ByteArray} {ws : List Wr} {F : Nat → Prop} {w : World} (r : Nat → Option Mt) (h : Dv db base m0 true fu lf sy nw ws F w) (hn : nw.length = 1) (hr : ∀ k : Nat, k < 1 → ∀ W, Calls Tryd.prog 11 #[.int .i64 k, .string (nw.getD k default)] W fun e w' => ∃ kk : Int, e = .returned (.tuple #[mtv ((r k).getD mt0), .int .i64 kk]) ∧ (kk == 0) = (r k).isSome ∧ Below W.heap.size W w') :
    Calls Tryd.prog 20 #[.pointer (some ⟨db, 0, none⟩)] w fun e w' => e = .returned (.tuple #[mtv mt0, .int .i64 3]) ∧ Below w.heap.size w w' := by
  have HRD := Lib.hid (fun k (hk : k < 1) W (hb : Below w.heap.size w W) => dv_read k (h.keep (Fr.of_all (S := fun _ => False) hb) (fun _ _ h => h)) (by omega))
  have HRO := Lib.hid (fun W (hb : Below w.heap.size w W) => dv_read_out 1 (h.keep (Fr.of_all (S := fun _ => False) hb) (fun _ _ h => h)) (by omega))
  have HG := Lib.hid (fun k (hk : k < 1) W => hr k hk W)
  clear h hn hr
  go_enter Tryd.func20, Tryd.ntmps20
  have h1 := MtB.fresh w mt0
  have h2 := MtB.fresh (w.alloc (.cells #[.int .i64 0, .int .i64 0, .int .i64 0, .int .i64 0] 23)) mt0
  rw [World.size_alloc] at h2
  have HR0 : Hid (ChR w none ((w.alloc (.cells #[.int .i64 0, .int .i64 0, .int .i64 0, .int .i64 0] 23)).alloc (.cells #[.int .i64 0, .int .i64 0, .int .i64 0, .int .i64 0] 23))) := Lib.hid ⟨h1.keep ((Fr.refl (fun _ => False) _).alloc _) (fun h => h), h2, ((Below.refl _ w).alloc (Nat.le_refl _) _).alloc (by simp) _⟩
  clear h1 h2
  go_wp2
  go_loopw [5, 10] (fun fd i wr => ∃ k : Nat, k ≤ 1 ∧ i = .int .i64 k ∧ fd = .bool (chosen r k).isSome ∧ Hid (ChR w (chosen r k) wr)) (fun _ i _ => 2 - (intOf i).toNat)
  case atStart => exact ⟨0, Nat.zero_le _, rfl, rfl, HR0⟩
  case round =>
    obtain ⟨k, hk, rfl, rfl, hrel⟩ := hrel
    by_cases hk2 : k < 1
    · have hbw := hrel.out.2.2
      have HD := Lib.hid (HRD.out k hk2 wr hbw)
      have HGK := Lib.hid (HG.out k hk2 wr)
      have hnx : Hid (chosen r (k + 1) = newer (chosen r k) (r k)) := Lib.hid rfl
      generalize nw.getD k default = page at *
      generalize chosen r k = b at *
      generalize hrk : r k = rk at *
      clear hrk
      have hszw := hbw.size
      have HRL : Hid (ChR w b wr) := hrel
      clear hrel hbw
      go_wp2_with fail
      refine HD.out.mono ?_
      rintro e w1 ⟨rfl, rfl⟩
      go_wp2_with fail
      refine HGK.out.mono ?_
      rintro e w2 ⟨kk, rfl, hkk, hb2⟩
      have hF2 : Fr (fun _ => False) w1 (w2.alloc (.cells #[.int .i64 (rk.getD mt0).txn, .int .i64 (rk.getD mt0).root, .int .i64 (rk.getD mt0).free, .int .i64 (rk.getD mt0).pages] 23)) := (Fr.of_all (S := fun _ => False) hb2).alloc _
      have hA := HRL.out.1.keep hF2 (fun h => h)
      have hB := HRL.out.2.1.keep hF2 (fun h => h)
      have hC := MtB.fresh w2 (rk.getD mt0)
      have hb3 : Below w.heap.size w (w2.alloc (.cells #[.int .i64 (rk.getD mt0).txn, .int .i64 (rk.getD mt0).root, .int .i64 (rk.getD mt0).free, .int .i64 (rk.getD mt0).pages] 23)) := HRL.out.2.2.trans ((hb2.alloc hb2.size _).mono hszw)
      have hw1 : w.heap.size + 1 < w2.heap.size := by
        have := cell_lt (HRL.out.2.1 0 (by omega)).1
        have := hb2.size
        simp at *
        omega
      obtain ⟨c0, c1, c2, c3⟩ := hC.cells
      obtain ⟨d0, d1, d2, d3⟩ := hB.cells
      have hB2 := HRL.out.2.1.keep (Fr.of_all (S := fun _ => False) hb2) (fun h => h)
      obtain ⟨f0, f1, f2, f3⟩ := hB2.cells
      have g0 := (hB2 0 (by omega)).2
      have g1 := (hB2 1 (by omega)).2
      have g2 := (hB2 2 (by omega)).2
      have g3 := (hB2 3 (by omega)).2
      clear hB2
      have e0 := (hB 0 (by omega)).2
      have e1 := (hB 1 (by omega)).2
      have e2 := (hB 2 (by omega)).2
      have e3 := (hB 3 (by omega)).2
      have HST : Hid (∀ m : Mt, ChR w (some m) (((((w2.setCell ⟨w.heap.size + 1, 0, none⟩ (.int .i64 m.txn)).setCell ⟨w.heap.size + 1, 1, none⟩ (.int .i64 m.root)).setCell ⟨w.heap.size + 1, 2, none⟩ (.int .i64 m.free)).setCell ⟨w.heap.size + 1, 3, none⟩ (.int .i64 m.pages)).alloc (.cells #[.int .i64 m.txn, .int .i64 m.root, .int .i64 m.free, .int .i64 m.pages] 23))) := Lib.hid (fun m => by
        have hF : Fr (fun _ => False) w1 w2 := Fr.of_all (S := fun _ => False) hb2
        have hFS : Fr (fun k => k = w.heap.size + 1) w2 ((((w2.setCell ⟨w.heap.size + 1, 0, none⟩ (.int .i64 m.txn)).setCell ⟨w.heap.size + 1, 1, none⟩ (.int .i64 m.root)).setCell ⟨w.heap.size + 1, 2, none⟩ (.int .i64 m.free)).setCell ⟨w.heap.size + 1, 3, none⟩ (.int .i64 m.pages)) := ((((Fr.refl (fun k => k = w.heap.size + 1) w2).setCell (p := ⟨w.heap.size + 1, 0, none⟩) (fun _ => rfl) _).setCell (p := ⟨w.heap.size + 1, 1, none⟩) (fun _ => rfl) _).setCell (p := ⟨w.heap.size + 1, 2, none⟩) (fun _ => rfl) _).setCell (p := ⟨w.heap.size + 1, 3, none⟩) (fun _ => rfl) _
        refine ⟨((HRL.out.1.keep hF (fun h => h)).keep hFS (by show ¬ w.heap.size = w.heap.size + 1; omega)).keep ((Fr.refl (fun _ => False) _).alloc _) (fun h => h), ((HRL.out.2.1.keep hF (fun h => h)).put (x := m)).keep ((Fr.refl (fun _ => False) _).alloc _) (fun h => h), ?_⟩
        have h9 : Below w.heap.size w ((((w2.setCell ⟨w.heap.size + 1, 0, none⟩ (.int .i64 m.txn)).setCell ⟨w.heap.size + 1, 1, none⟩ (.int .i64 m.root)).setCell ⟨w.heap.size + 1, 2, none⟩ (.int .i64 m.free)).setCell ⟨w.heap.size + 1, 3, none⟩ (.int .i64 m.pages)) := (HRL.out.2.2.trans (hb2.mono hszw)).trans (hFS.below (by omega) (fun i hi => by have : i = w.heap.size + 1 := hi; omega))
        exact h9.alloc h9.size _)
      have HAB := Lib.hid (And.intro hA (And.intro hB hb3))
      clear hA hB hC hb3 hF2 hb2 HRL
      unfold mtv
      cases rk with
      | none =>
        have hk0 : (kk == 0) = false := hkk
        have HN : Hid (chosen r (k + 1) = b) := Lib.hid hnx.out
        clear hkk hnx HST
        go_wp2
        go_roundw
        case rel => exact ⟨k + 1, by omega, by go_num, by rw [HN.out], by rw [HN.out]; exact Lib.hid HAB.out⟩
        case measure => simp [intOf]; omega
      | some m =>
        have hk0 : (kk == 0) = true := hkk
        cases b with
        | none =>
          simp only [Option.getD_some, Option.getD_none, Option.isSome_none] at c0 c1 c2 c3 d0 d1 d2 d3 e0 e1 e2 e3 f0 f1 f2 f3 ⊢
          have HN : Hid (chosen r (k + 1) = some m) := Lib.hid hnx.out
          clear hkk hnx
          go_wp2
          go_roundw
          case rel => exact ⟨k + 1, by omega, by go_num, by rw [HN.out]; rfl, by rw [HN.out]; exact Lib.hid (HST.out m)⟩
          case measure => simp [intOf]; omega
        | some x =>
          simp only [Option.getD_some, Option.isSome_some] at c0 c1 c2 c3 d0 d1 d2 d3 e0 e1 e2 e3 f0 f1 f2 f3 ⊢
          by_cases hlt : x.txn < m.txn
          · have HN : Hid (chosen r (k + 1) = some m) := Lib.hid (hnx.out.trans (by simp [newer, hlt]))
            have hl1 : (x.txn : Int) < m.txn := by omega
            clear hkk hnx
            go_wp2
            go_roundw
            case rel => exact ⟨k + 1, by omega, by go_num, by rw [HN.out]; rfl, by rw [HN.out]; exact Lib.hid (HST.out m)⟩
            case measure => simp [intOf]; omega
          · have HN : Hid (chosen r (k + 1) = some x) := Lib.hid (hnx.out.trans (by simp [newer, hlt]))
            have hl1 : ¬ (x.txn : Int) < m.txn := by omega
            clear hkk hnx HST
            go_wp2
            go_roundw
            case rel => exact ⟨k + 1, by omega, by go_num, by rw [HN.out]; rfl, by rw [HN.out]; exact Lib.hid HAB.out⟩
            case measure => simp [intOf]; omega
    · obtain rfl : k = 1 := by omega
      obtain ⟨hA, hB, hbw⟩ := hrel.out
      have HB := Lib.hid hbw
      have HRO1 := Lib.hid (HRO.out wr hbw)
      have hszw := hbw.size
      obtain ⟨f0, f1, f2, f3⟩ := hA.cells
      have g0 := (hA 0 (by omega)).2
      have g1 := (hA 1 (by omega)).2
      have g2 := (hA 2 (by omega)).2
      have g3 := (hA 3 (by omega)).2
      have hlt : w.heap.size < wr.heap.size := cell_lt f0
      have HEND : Hid (∀ v0 v1 v2 v3 : Value, Below w.heap.size w ((((wr.setCell ⟨w.heap.size, 0, none⟩ v0).setCell ⟨w.heap.size, 1, none⟩ v1).setCell ⟨w.heap.size, 2, none⟩ v2).setCell ⟨w.heap.size, 3, none⟩ v3)) := Lib.hid (fun _ _ _ _ => (((HB.out.setCell (p := ⟨w.heap.size, 0, none⟩) (Nat.le_refl _) _).setCell (p := ⟨w.heap.size, 1, none⟩) (Nat.le_refl _) _).setCell (p := ⟨w.heap.size, 2, none⟩) (Nat.le_refl _) _).setCell (p := ⟨w.heap.size, 3, none⟩) (Nat.le_refl _) _)
      clear hA hB hbw hrel
      obtain ⟨x0, x1, x2, x3⟩ := cells4m (v0 := .int .i64 0) (v1 := .int .i64 0) (v2 := .int .i64 0) (v3 := .int .i64 0) f0 f1 f2 f3
      go_wp2_with fail
      refine HRO1.out.mono ?_
      rintro e w1 ⟨rfl, rfl⟩
      go_wp2
      exact bodyPost_ret (v := .tuple #[mtv mt0, .int .i64 3]) (by simp [results, Tryd.results20, go_sem, mtv, mt0, x0, x1, x2, x3]) rfl ⟨rfl, HEND.out _ _ _ _⟩

end Go.Proofs.YtpoiopjggmhnjaaDoor

/- arboretumref1: Choose, ChooseOf; meta.Write of any meta; a nil device. -/
namespace Go.Proofs.YtpoiopjggmhnjaaDoor
open Go.RowKit

/-- Get of both, by a meta. -/
structure GetM (at' : Nat) (b : ByteArray) (m : Mt) (c : Int) : Prop where
  real : ∀ w, Calls Tryd.prog 11 #[.int .i64 at', .string b] w fun e w' => e = .returned (.tuple #[mtv m, .int .i64 c]) ∧ Below w.heap.size w w'
  ref : ∀ w, Calls Tryd.prog 12 #[.int .i64 at', .string b] w fun e w' => e = .returned (.tuple #[mtv m, .int .i64 c]) ∧ Below w.heap.size w w'
  par : c = 0 → m.txn % 2 = at'
  zero : c ≠ 0 → m = mt0
theorem get_m (at' : Nat) (b : ByteArray) : ∃ m c, GetM at' b m c := by
  obtain ⟨t, r, f, p, c, h1, h2, h3, h4, h5, h6, h7, h8⟩ := get_both at' b
  obtain ⟨t, rfl⟩ := Int.eq_ofNat_of_zero_le h4
  obtain ⟨r, rfl⟩ := Int.eq_ofNat_of_zero_le h5
  obtain ⟨f, rfl⟩ := Int.eq_ofNat_of_zero_le h6
  obtain ⟨p, rfl⟩ := Int.eq_ofNat_of_zero_le h7
  refine ⟨⟨t, r, f, p⟩, c, h1, h2, fun hc => ?_, fun hc => ?_⟩
  · have := h3 hc
    simp only
    omega
  · obtain ⟨e1, e2, e3, e4⟩ := h8 hc
    have e1 : t = 0 := by omega
    have e2 : r = 0 := by omega
    have e3 : f = 0 := by omega
    have e4 : p = 0 := by omega
    rw [e1, e2, e3, e4]
    rfl
def rr (m : Mt) (c : Int) : Option Mt := if c = 0 then some m else none
theorem GetM.is {at' : Nat} {b : ByteArray} {m : Mt} {c : Int} (h : GetM at' b m c) (W : World) : Calls Tryd.prog 11 #[.int .i64 at', .string b] W fun e w' => ∃ kk : Int, e = .returned (.tuple #[mtv ((rr m c).getD mt0), .int .i64 kk]) ∧ (kk == 0) = (rr m c).isSome ∧ Below W.heap.size W w' := by
  refine (h.real W).mono ?_
  rintro e w' ⟨rfl, hb⟩
  refine ⟨c, ?_, ?_, hb⟩
  · unfold rr
    by_cases hc : c = 0
    · rw [if_pos hc]; rfl
    · rw [if_neg hc, h.zero hc]; rfl
  · unfold rr
    by_cases hc : c = 0
    · rw [if_pos hc, hc]; rfl
    · rw [if_neg hc]
      exact beq_eq_false_iff_ne.2 hc

/-- What is chosen of two pages. -/
def choice (m : Mt) (c : Int) (n : Mt) (d : Int) : Option Mt := chosen (two (rr m c) (rr n d)) 2
theorem choice_eq (m : Mt) (c : Int) (n : Mt) (d : Int) (h1 : c = 0 → m.txn % 2 = 0) (h2 : d = 0 → n.txn % 2 = 1) :
    choice m c n d = if c ≠ 0 ∧ d ≠ 0 then none else if c ≠ 0 then some n else if d ≠ 0 ∨ n.txn < m.txn then some m else some n := by
  unfold choice
  simp only [chosen, two, rr, newer]
  by_cases hc : c = 0
  · by_cases hd : d = 0
    · have := h1 hc
      have := h2 hd
      by_cases hlt : m.txn < n.txn
      · simp [hc, hd, hlt, show ¬ n.txn < m.txn by omega]
      · simp [hc, hd, hlt, show n.txn < m.txn by omega]
    · simp [hc, hd]
  · by_cases hd : d = 0
    · simp [hc, hd]
    · simp [hc, hd]

set_option maxHeartbeats 2000000 in
set_option maxRecDepth 100000 in
theorem ref_choose (a b : ByteArray) (m n : Mt) (c d : Int) (w : World) (hx : GetM 0 a m c) (hy : GetM 1 b n d) :
    Calls Tryd.prog 42 #[.string a, .string b] w fun e w' => e = .returned (.tuple #[mtv ((choice m c n d).getD mt0), .int .i64 (chE (choice m c n d))]) ∧ Below w.heap.size w w' := by
  have HX := Lib.hid hx.ref
  have HY := Lib.hid hy.ref
  have HCE := Lib.hid (choice_eq m c n d hx.par hy.par)
  clear hx hy
  go_enter Tryd.func42, Tryd.ntmps42
  have h0 := MtB.fresh w mt0
  have HB0 : Hid (MtB w.heap.size mt0 (w.alloc (.cells #[.int .i64 0, .int .i64 0, .int .i64 0, .int .i64 0] 23))) := Lib.hid h0
  have HL0 : Hid (Below w.heap.size w (w.alloc (.cells #[.int .i64 0, .int .i64 0, .int .i64 0, .int .i64 0] 23))) := Lib.hid ((Below.refl _ w).alloc (Nat.le_refl _) _)
  clear h0
  go_wp2_with fail
  refine (HX.out _).mono ?_
  rintro e w1 ⟨rfl, hb1⟩
  have HB1 : Hid (MtB w.heap.size mt0 (w1.alloc (.cells #[.int .i64 m.txn, .int .i64 m.root, .int .i64 m.free, .int .i64 m.pages] 23))) := Lib.hid (HB0.out.keep ((Fr.of_all (S := fun _ => False) hb1).alloc _) (fun h => h))
  have HM1 := Lib.hid (MtB.fresh w1 m)
  have HL1 : Hid (Below w.heap.size w w1) := Lib.hid (HL0.out.trans (hb1.mono HL0.out.size))
  have hw1 : w.heap.size < w1.heap.size := by have := hb1.size; simp at this; omega
  have HL1a : Hid (Below w.heap.size w (w1.alloc (.cells #[.int .i64 m.txn, .int .i64 m.root, .int .i64 m.free, .int .i64 m.pages] 23))) := Lib.hid (HL1.out.alloc (Nat.le_of_lt hw1) _)
  unfold mtv
  clear hb1 HB0 HL0
  go_wp2_with fail
  refine (HY.out _).mono ?_
  rintro e w2 ⟨rfl, hb2⟩
  have HB2 := Lib.hid (HB1.out.keep ((Fr.of_all (S := fun _ => False) hb2).alloc (.cells #[.int .i64 n.txn, .int .i64 n.root, .int .i64 n.free, .int .i64 n.pages] 23)) (fun h => h))
  have HM2 := Lib.hid (HM1.out.keep ((Fr.of_all (S := fun _ => False) hb2).alloc (.cells #[.int .i64 n.txn, .int .i64 n.root, .int .i64 n.free, .int .i64 n.pages] 23)) (fun h => h))
  have HN2 := Lib.hid (MtB.fresh w2 n)
  have HL2 : Hid (Below w.heap.size w w2) := Lib.hid (HL1a.out.trans (hb2.mono HL1a.out.size))
  have hw2 : w1.heap.size < w2.heap.size := by have := hb2.size; simp at this; omega
  have HL2a : Hid (Below w.heap.size w (w2.alloc (.cells #[.int .i64 n.txn, .int .i64 n.root, .int .i64 n.free, .int .i64 n.pages] 23))) := Lib.hid (HL2.out.alloc (by omega) _)
  have HEND : Hid (∀ v0 v1 v2 v3 : Value, Below w.heap.size w (((((w2.alloc (.cells #[.int .i64 n.txn, .int .i64 n.root, .int .i64 n.free, .int .i64 n.pages] 23)).setCell ⟨w.heap.size, 0, none⟩ v0).setCell ⟨w.heap.size, 1, none⟩ v1).setCell ⟨w.heap.size, 2, none⟩ v2).setCell ⟨w.heap.size, 3, none⟩ v3)) := Lib.hid (fun _ _ _ _ => (((HL2a.out.setCell (p := ⟨w.heap.size, 0, none⟩) (Nat.le_refl _) _).setCell (p := ⟨w.heap.size, 1, none⟩) (Nat.le_refl _) _).setCell (p := ⟨w.heap.size, 2, none⟩) (Nat.le_refl _) _).setCell (p := ⟨w.heap.size, 3, none⟩) (Nat.le_refl _) _)
  obtain ⟨f0, f1, f2, f3⟩ := HB2.out.cells
  obtain ⟨p0, p1, p2, p3⟩ := HM2.out.cells
  obtain ⟨q0, q1, q2, q3⟩ := HN2.out.cells
  have g0 := (HB2.out 0 (by omega)).2
  have g1 := (HB2.out 1 (by omega)).2
  have g2 := (HB2.out 2 (by omega)).2
  have g3 := (HB2.out 3 (by omega)).2
  clear hb2 HB1 HM1 HB2 HM2 HN2 HL1 HL1a HL2 HL2a
  unfold mtv
  by_cases hc : c = 0
  · have HC := Lib.hid hc
    have bc : (c != 0) = false := by rw [hc]; rfl
    clear hc
    by_cases hd : d = 0
    · have HD := Lib.hid hd
      have bd : (d != 0) = false := by rw [hd]; rfl
      clear hd
      by_cases hlt : n.txn < m.txn
      · have hl1 : (n.txn : Int) < (m.txn : Int) := by omega
        obtain ⟨x0, x1, x2, x3⟩ := cells4m (v0 := .int .i64 m.txn) (v1 := .int .i64 m.root) (v2 := .int .i64 m.free) (v3 := .int .i64 m.pages) f0 f1 f2 f3
        go_wp2
        exact bodyPost_ret (v := .tuple #[mtv m, .int .i64 0]) (by simp [results, Tryd.results42, go_sem, mtv, mt0, x0, x1, x2, x3]) rfl ⟨by rw [HCE.out]; first | rfl | simp [HC.out, HD.out, hlt, chE, mtv, mt0], HEND.out _ _ _ _⟩
      · have hl1 : ¬ (n.txn : Int) < (m.txn : Int) := by omega
        obtain ⟨x0, x1, x2, x3⟩ := cells4m (v0 := .int .i64 n.txn) (v1 := .int .i64 n.root) (v2 := .int .i64 n.free) (v3 := .int .i64 n.pages) f0 f1 f2 f3
        go_wp2
        exact bodyPost_ret (v := .tuple #[mtv n, .int .i64 0]) (by simp [results, Tryd.results42, go_sem, mtv, mt0, x0, x1, x2, x3]) rfl ⟨by rw [HCE.out]; first | rfl | simp [HC.out, HD.out, hlt, chE, mtv, mt0], HEND.out _ _ _ _⟩
    · have HD := Lib.hid hd
      have bd : (d != 0) = true := by rw [bne_iff_ne]; exact hd
      clear hd
      obtain ⟨x0, x1, x2, x3⟩ := cells4m (v0 := .int .i64 m.txn) (v1 := .int .i64 m.root) (v2 := .int .i64 m.free) (v3 := .int .i64 m.pages) f0 f1 f2 f3
      go_wp2
      exact bodyPost_ret (v := .tuple #[mtv m, .int .i64 0]) (by simp [results, Tryd.results42, go_sem, mtv, mt0, x0, x1, x2, x3]) rfl ⟨by rw [HCE.out]; first | rfl | simp [HC.out, HD.out, chE, mtv, mt0], HEND.out _ _ _ _⟩
  · have HC := Lib.hid hc
    have bc : (c != 0) = true := by rw [bne_iff_ne]; exact hc
    clear hc
    by_cases hd : d = 0
    · have HD := Lib.hid hd
      have bd : (d != 0) = false := by rw [hd]; rfl
      clear hd
      obtain ⟨x0, x1, x2, x3⟩ := cells4m (v0 := .int .i64 n.txn) (v1 := .int .i64 n.root) (v2 := .int .i64 n.free) (v3 := .int .i64 n.pages) f0 f1 f2 f3
      go_wp2
      exact bodyPost_ret (v := .tuple #[mtv n, .int .i64 0]) (by simp [results, Tryd.results42, go_sem, mtv, mt0, x0, x1, x2, x3]) rfl ⟨by rw [HCE.out]; first | rfl | simp [HC.out, HD.out, chE, mtv, mt0], HEND.out _ _ _ _⟩
    · have HD := Lib.hid hd
      have bd : (d != 0) = true := by rw [bne_iff_ne]; exact hd
      clear hd
      obtain ⟨x0, x1, x2, x3⟩ := cells4m (v0 := .int .i64 0) (v1 := .int .i64 0) (v2 := .int .i64 0) (v3 := .int .i64 0) f0 f1 f2 f3
      go_wp2
      exact bodyPost_ret (v := .tuple #[mtv mt0, .int .i64 15]) (by simp [results, Tryd.results42, go_sem, mtv, mt0, x0, x1, x2, x3]) rfl ⟨by rw [HCE.out]; first | rfl | simp [HC.out, HD.out, chE, mtv, mt0], HEND.out _ _ _ _⟩

set_option maxHeartbeats 1000000 in
set_option maxRecDepth 100000 in
theorem ref_chooseOf {rb base : Nat} {lv wv : Value} {L : List ByteArray} {Ws : List Wr} {w : World} (m n : Mt) (c d : Int) (h : RDv rb base lv wv L Ws w) (hl : L.length = 2) (hw : Ws.length ≤ 1000) (hx : GetM 0 (nowOf L Ws 0) m c) (hy : GetM 1 (nowOf L Ws 1) n d) :
    Calls Tryd.prog 21 #[.pointer (some ⟨rb, 0, none⟩)] w fun e w' => e = .returned (.tuple #[mtv ((choice m c n d).getD mt0), .int .i64 (chE (choice m c n d))]) ∧ Below w.heap.size w w' := by
  have HR0 := Lib.hid (fun W (hb : Below w.heap.size w W) => rdv_read 0 (h.below hb) (by omega) (by omega))
  have HR1 := Lib.hid (fun W (hb : Below w.heap.size w W) => rdv_read 1 (h.below hb) (by omega) (by omega))
  have HC := Lib.hid (fun W => ref_choose _ _ m n c d W hx hy)
  clear h hl hw hx hy
  generalize nowOf L Ws 0 = p0 at *
  generalize nowOf L Ws 1 = p1 at *
  generalize (choice m c n d).getD mt0 = x at *
  generalize chE (choice m c n d) = z at *
  go_enter Tryd.func21, Tryd.ntmps21
  have HB0 : Hid (MtB w.heap.size mt0 (w.alloc (.cells #[.int .i64 0, .int .i64 0, .int .i64 0, .int .i64 0] 23))) := Lib.hid (MtB.fresh w mt0)
  have HL0 : Hid (Below w.heap.size w (w.alloc (.cells #[.int .i64 0, .int .i64 0, .int .i64 0, .int .i64 0] 23))) := Lib.hid ((Below.refl _ w).alloc (Nat.le_refl _) _)
  go_wp2_with fail
  refine (HR0.out _ HL0.out).mono ?_
  rintro e w1 ⟨rfl, hw1⟩
  subst hw1
  go_wp2_with fail
  refine (HR1.out _ HL0.out).mono ?_
  rintro e w1 ⟨rfl, hw1⟩
  subst hw1
  go_wp2_with fail
  refine (HC.out _).mono ?_
  rintro e w2 ⟨rfl, hb2⟩
  have HB2 := Lib.hid (HB0.out.keep (Fr.of_all (S := fun _ => False) hb2) (fun h => h))
  have HL2 : Hid (Below w.heap.size w w2) := Lib.hid (HL0.out.trans (hb2.mono HL0.out.size))
  have hw2 : w.heap.size < w2.heap.size := by have := hb2.size; simp at this; omega
  have HEND : Hid (∀ v0 v1 v2 v3 : Value, Below w.heap.size w ((((w2.setCell ⟨w.heap.size, 0, none⟩ v0).setCell ⟨w.heap.size, 1, none⟩ v1).setCell ⟨w.heap.size, 2, none⟩ v2).setCell ⟨w.heap.size, 3, none⟩ v3)) := Lib.hid (fun _ _ _ _ => (((HL2.out.setCell (p := ⟨w.heap.size, 0, none⟩) (Nat.le_refl _) _).setCell (p := ⟨w.heap.size, 1, none⟩) (Nat.le_refl _) _).setCell (p := ⟨w.heap.size, 2, none⟩) (Nat.le_refl _) _).setCell (p := ⟨w.heap.size, 3, none⟩) (Nat.le_refl _) _)
  obtain ⟨f0, f1, f2, f3⟩ := HB2.out.cells
  have g0 := (HB2.out 0 (by omega)).2
  have g1 := (HB2.out 1 (by omega)).2
  have g2 := (HB2.out 2 (by omega)).2
  have g3 := (HB2.out 3 (by omega)).2
  clear hb2 HB0 HL0 HB2
  obtain ⟨x0, x1, x2, x3⟩ := cells4m (v0 := .int .i64 x.txn) (v1 := .int .i64 x.root) (v2 := .int .i64 x.free) (v3 := .int .i64 x.pages) f0 f1 f2 f3
  unfold mtv
  go_wp2
  exact bodyPost_ret (v := .tuple #[mtv x, .int .i64 z]) (by simp [results, Tryd.results21, go_sem, mtv, x0, x1, x2, x3]) rfl ⟨rfl, HEND.out _ _ _ _⟩

set_option maxHeartbeats 1000000 in
set_option maxRecDepth 100000 in
theorem ref_chooseOne {rb base : Nat} {lv wv : Value} {L : List ByteArray} {Ws : List Wr} {w : World} (h : RDv rb base lv wv L Ws w) (hl : L.length = 1) (hw : Ws.length ≤ 1000) :
    Calls Tryd.prog 21 #[.pointer (some ⟨rb, 0, none⟩)] w fun e w' => e = .returned (.tuple #[mtv mt0, .int .i64 3]) ∧ Below w.heap.size w w' := by
  have HR0 := Lib.hid (fun W (hb : Below w.heap.size w W) => rdv_read 0 (h.below hb) (by omega) (by omega))
  have HR1 := Lib.hid (fun W (hb : Below w.heap.size w W) => rdv_read_out 1 (h.below hb) (by omega))
  clear h hl hw
  generalize nowOf L Ws 0 = p0 at *
  go_enter Tryd.func21, Tryd.ntmps21
  have HB0 : Hid (MtB w.heap.size mt0 (w.alloc (.cells #[.int .i64 0, .int .i64 0, .int .i64 0, .int .i64 0] 23))) := Lib.hid (MtB.fresh w mt0)
  have HL0 : Hid (Below w.heap.size w (w.alloc (.cells #[.int .i64 0, .int .i64 0, .int .i64 0, .int .i64 0] 23))) := Lib.hid ((Below.refl _ w).alloc (Nat.le_refl _) _)
  go_wp2_with fail
  refine (HR0.out _ HL0.out).mono ?_
  rintro e w1 ⟨rfl, hw1⟩
  subst hw1
  go_wp2_with fail
  refine (HR1.out _ HL0.out).mono ?_
  rintro e w1 ⟨rfl, hw1⟩
  subst hw1
  have HEND : Hid (∀ v0 v1 v2 v3 : Value, Below w.heap.size w (((((w.alloc (.cells #[.int .i64 0, .int .i64 0, .int .i64 0, .int .i64 0] 23)).setCell ⟨w.heap.size, 0, none⟩ v0).setCell ⟨w.heap.size, 1, none⟩ v1).setCell ⟨w.heap.size, 2, none⟩ v2).setCell ⟨w.heap.size, 3, none⟩ v3)) := Lib.hid (fun _ _ _ _ => (((HL0.out.setCell (p := ⟨w.heap.size, 0, none⟩) (Nat.le_refl _) _).setCell (p := ⟨w.heap.size, 1, none⟩) (Nat.le_refl _) _).setCell (p := ⟨w.heap.size, 2, none⟩) (Nat.le_refl _) _).setCell (p := ⟨w.heap.size, 3, none⟩) (Nat.le_refl _) _)
  go_wp2
  refine bodyPost_ret (v := .tuple #[mtv mt0, .int .i64 3]) (by simp [results, Tryd.results21, go_sem, mtv, mt0]) rfl ⟨rfl, ?_⟩
  first | exact HL0.out | exact HEND.out _ _ _ _

set_option maxRecDepth 100000 in
theorem nil_read (n : Int) (w : World) : Calls Tryd.prog 40 #[.pointer none, .int .i64 n] w fun e w' => e = .returned (.tuple #[.string ByteArray.empty, .int .i64 14]) ∧ w' = w := by
  go_enter Tryd.func40, Tryd.ntmps40
  go_wp2_with fail
  refine (dev_off_nil _).mono ?_
  rintro e w1 ⟨rfl, rfl⟩
  go_wp2
  go_ret2
  exact ⟨rfl, rfl⟩

set_option maxRecDepth 100000 in
theorem nil_write (n : Int) (s : ByteArray) (w : World) : Calls Tryd.prog 17 #[.pointer none, .int .i64 n, .string s] w fun e w' => e = .returned (.int .i64 14) ∧ w' = w := by
  go_enter Tryd.func17, Tryd.ntmps17
  go_wp2_with fail
  refine (dev_off_nil _).mono ?_
  rintro e w1 ⟨rfl, rfl⟩
  go_wp2
  go_ret
  exact ⟨rfl, rfl⟩

set_option maxHeartbeats 1000000 in
set_option maxRecDepth 100000 in
theorem nil_choose (w : World) : Calls Tryd.prog 20 #[.pointer none] w fun e w' => e = .returned (.tuple #[mtv mt0, .int .i64 14]) ∧ Below w.heap.size w w' := by
  go_enter Tryd.func20, Tryd.ntmps20
  have hbw : Below w.heap.size w ((w.alloc (.cells #[.int .i64 0, .int .i64 0, .int .i64 0, .int .i64 0] 23)).alloc (.cells #[.int .i64 0, .int .i64 0, .int .i64 0, .int .i64 0] 23)) := ((Below.refl _ w).alloc (Nat.le_refl _) _).alloc (by simp) _
  have h1 := MtB.fresh w mt0
  have h2 := h1.keep ((Fr.refl (fun _ => False) _).alloc (.cells #[.int .i64 0, .int .i64 0, .int .i64 0, .int .i64 0] 23)) (fun h => h)
  have HM := Lib.hid h2
  have HB := Lib.hid hbw
  clear hbw h1 h2
  go_wp2
  have hm := HM.out
  have hb := HB.out
  have hlt : w.heap.size < ((w.alloc (.cells #[.int .i64 0, .int .i64 0, .int .i64 0, .int .i64 0] 23)).alloc (.cells #[.int .i64 0, .int .i64 0, .int .i64 0, .int .i64 0] 23)).heap.size := by simp; omega
  unfold MtB at hm
  simp only [mt0, Mt.l] at hm
  generalize ((w.alloc (.cells #[.int .i64 0, .int .i64 0, .int .i64 0, .int .i64 0] 23)).alloc (.cells #[.int .i64 0, .int .i64 0, .int .i64 0, .int .i64 0] 23)) = W0 at *
  obtain ⟨f0, g0⟩ := hm 0 (by omega)
  obtain ⟨f1, g1⟩ := hm 1 (by omega)
  obtain ⟨f2, g2⟩ := hm 2 (by omega)
  obtain ⟨f3, g3⟩ := hm 3 (by omega)
  have f0 : W0.cell? ⟨w.heap.size, 0, none⟩ = some (.int .i64 0) := f0
  have f1 : W0.cell? ⟨w.heap.size, 1, none⟩ = some (.int .i64 0) := f1
  have f2 : W0.cell? ⟨w.heap.size, 2, none⟩ = some (.int .i64 0) := f2
  have f3 : W0.cell? ⟨w.heap.size, 3, none⟩ = some (.int .i64 0) := f3
  have HBW := Lib.hid hb
  clear HM HB hm hb
  have hb2 : (2 : Int) ≠ 0 := by omega
  clear hb2
  go_loopw [5, 10] (fun fd i wr => i = .int .i64 0 ∧ wr = W0) (fun _ _ _ => 0)
  case atStart => exact ⟨rfl, rfl⟩
  case round =>
    obtain ⟨rfl, rfl⟩ := hrel
    obtain ⟨x0, x1, x2, x3⟩ := cells4m (v0 := .int .i64 0) (v1 := .int .i64 0) (v2 := .int .i64 0) (v3 := .int .i64 0) f0 f1 f2 f3
    go_wp2_with fail
    refine (nil_read 0 _).mono ?_
    rintro e w1 ⟨rfl, rfl⟩
    go_wp2
    exact bodyPost_ret (v := .tuple #[mtv mt0, .int .i64 14]) (by simp [results, Tryd.results20, go_sem, mtv, mt0, x0, x1, x2, x3]) rfl ⟨rfl, (((HBW.out.setCell (p := ⟨w.heap.size, 0, none⟩) (Nat.le_refl _) _).setCell (p := ⟨w.heap.size, 1, none⟩) (Nat.le_refl _) _).setCell (p := ⟨w.heap.size, 2, none⟩) (Nat.le_refl _) _).setCell (p := ⟨w.heap.size, 3, none⟩) (Nat.le_refl _) _⟩

set_option maxHeartbeats 1000000 in
set_option maxRecDepth 100000 in
theorem nil_mwrite (w : World) : Calls Tryd.prog 19 #[.pointer none, .agg #[.int .i64 0, .int .i64 0, .int .i64 0, .int .i64 0]] w fun e w' => e = .returned (.int .i64 14) ∧ Below w.heap.size w w' := by
  have HP : Hid (∀ w, Calls Tryd.prog 7 #[.agg #[.int .i64 0, .int .i64 0, .int .i64 0, .int .i64 0]] w fun e w' => e = .returned (.tuple #[.string (metaP mt0), .int .i64 0]) ∧ Below w.heap.size w w') := Lib.hid (fun w => meta_put mt0 w (Mt.ok_of (by simp [mt0]) (by simp [mt0]) (by simp [mt0]) (by simp [mt0])))
  have HPL := Lib.hid (fun w => meta_place_any 0 w)
  generalize metaP mt0 = S at *
  go_enter Tryd.func19, Tryd.ntmps19
  have HB : Hid (∀ a, Below w.heap.size w (w.alloc a)) := Lib.hid (fun a => (Below.refl _ w).alloc (Nat.le_refl _) _)
  have HB0 : Hid ((w.alloc (.cells #[.int .i64 0, .int .i64 0, .int .i64 0, .int .i64 0] 23)).cell? ⟨w.heap.size, 0, none⟩ = some (.int .i64 0)) := Lib.hid (by go_simp)
  go_wp2_with fail
  refine (HP.out _).mono ?_
  rintro e w1 ⟨rfl, hb1⟩
  have hb0 := (hb1.cell (p := ⟨w.heap.size, 0, none⟩) (by simp)).trans HB0.out
  have HB1 : Hid (Below w.heap.size w w1) := Lib.hid ((HB.out _).trans (hb1.mono (by simp)))
  clear hb1
  go_wp2_with fail
  refine (HPL.out _).mono ?_
  rintro e w2 ⟨rfl, rfl⟩
  go_wp2_with fail
  refine (nil_write _ _ _).mono ?_
  rintro e w3 ⟨rfl, rfl⟩
  go_wp2
  go_ret
  exact ⟨rfl, HB1.out⟩
end Go.Proofs.YtpoiopjggmhnjaaDoor

/- meta.Write of any meta, on a device of one page or of two. -/
namespace Go.Proofs.YtpoiopjggmhnjaaDoor
open Go.RowKit

set_option maxHeartbeats 1000000 in
set_option maxRecDepth 100000 in
theorem dv_write_out {db base : Nat} {m lf : Int} {sy nw : List ByteArray} {ws : List Wr} {F : Nat → Prop} {w : World} (k : Nat) (s : ByteArray) (h : Dv db base m true false lf sy nw ws F w) (hk : nw.length ≤ k) (hlf : lf ≤ 1000000) :
    Calls Tryd.prog 17 #[.pointer (some ⟨db, 0, none⟩), .int .i64 k, .string s] w fun e w' => e = .returned (.int .i64 3) ∧ Dv db base m true false lf sy nw ws F w' ∧ Step F F w w' := by
  have HH := h.here
  obtain ⟨v4, v5, cv, h, hok, hb, rfl⟩ := h
  have HOFF := Lib.hid (dev_off db true w h.c1)
  have HOP := Lib.hid (dv_op v4 v5 cv h hlf)
  have e1 : opFl false lf = false := by simp [opFl]
  have e2 : opLf false lf = lf := by simp [opLf]
  rw [e1, e2] at HOP
  have HX := Lib.hid (And.intro hok hb)
  obtain ⟨p5, c5, hv⟩ := owns_slice h.o5
  have HV := Lib.hid hv
  have hd : decide (nw.length ≤ k) = true := by simpa using hk
  have hkI : (nw.length : Int) ≤ (k : Int) := by omega
  have HHH := Lib.hid HH
  clear h hok hb e1 e2 hv HH
  go_enter Tryd.func17, Tryd.ntmps17
  go_wp2_with fail
  refine HOFF.out.mono ?_
  rintro e w1 ⟨rfl, rfl⟩
  go_wp2_with fail
  refine HOP.out.mono ?_
  rintro e w2 ⟨rfl, hD, hF⟩
  have c5' := hD.c5
  rw [HV.out] at c5'
  have HD := Lib.hid hD
  have HF := Lib.hid hF
  clear hD hF HOP HOFF
  go_wp2
  go_ret
  have hD := HD.out
  exact ⟨rfl, ⟨v4, v5, cv, hD, HX.out.1, Nat.le_trans HX.out.2 HF.out.size, rfl⟩, Step.sub HF.out HHH.out⟩

/-- What a meta's Write does. -/
def MwPost (db base : Nat) (sy nw : List ByteArray) (ws : List Wr) (F : Nat → Prop) (k : Nat) (S : ByteArray) (c : Int) (w : World) (e : Ending) (w' : World) : Prop :=
  if c ≠ 0 then e = .returned (.int .i64 c) ∧ Dv db base 2 true false 0 sy nw ws F w' ∧ Step F F w w'
  else if nw.length ≤ k then e = .returned (.int .i64 3) ∧ Dv db base 2 true false 0 sy nw ws F w' ∧ Step F F w w'
  else e = .returned (.int .i64 0) ∧ ∃ F', Dv db base 2 true false 0 sy (nw.set k S) (ws ++ [((k : Int), S)]) F' w' ∧ Step F F' w w'

set_option maxHeartbeats 1000000 in
set_option maxRecDepth 100000 in
theorem mwrite_any {db base : Nat} {sy nw : List ByteArray} {ws : List Wr} {F : Nat → Prop} {w : World} (a b c d : Int) (S : ByteArray) (c' : Int) (k : Nat) (hp : PutA a b c d S c') (hk : (a % 2) = (k : Int)) (h : Dv db base 2 true false 0 sy nw ws F w) (hw : ws.length < 1000) :
    Calls Tryd.prog 19 #[.pointer (some ⟨db, 0, none⟩), .agg #[.int .i64 a, .int .i64 b, .int .i64 c, .int .i64 d]] w (MwPost db base sy nw ws F k S c' w) := by
  have HPU := Lib.hid hp.1
  have HSZ := Lib.hid hp.2.2.1
  have HPL : Hid (∀ w, Calls Tryd.prog 9 #[.int .i64 a] w fun e w' => e = .returned (.int .i64 k) ∧ w' = w) := Lib.hid (fun w => by rw [← hk]; exact meta_place_any a w)
  have H := Lib.hid h
  have HW := Lib.hid hw
  have HB0 : Hid (∀ x, Below w.heap.size w (w.alloc x)) := Lib.hid (fun x => (Below.refl _ w).alloc (Nat.le_refl _) _)
  have HC0 : Hid ((w.alloc (.cells #[.int .i64 a, .int .i64 b, .int .i64 c, .int .i64 d] 23)).cell? ⟨w.heap.size, 0, none⟩ = some (.int .i64 a)) := Lib.hid (by go_simp)
  clear hp hk h hw
  by_cases hc : c' = 0
  · have HSZ2 := Lib.hid (HSZ.out hc)
    subst hc
    go_enter Tryd.func19, Tryd.ntmps19
    go_wp2_with fail
    refine (HPU.out _).mono ?_
    rintro e w1 ⟨rfl, hb1⟩
    have hb0 := (hb1.cell (p := ⟨w.heap.size, 0, none⟩) (by simp)).trans HC0.out
    have HB1 : Hid (Below w.heap.size w w1) := Lib.hid ((HB0.out _).trans (hb1.mono (by simp)))
    clear hb1
    go_wp2_with fail
    refine (HPL.out _).mono ?_
    rintro e w2 ⟨rfl, hw2⟩
    subst hw2
    have hF1 : Fr (fun _ => False) w w2 := Fr.of_all (S := fun _ => False) HB1.out
    have hD := H.out.keep hF1 (fun _ _ h => h)
    have HF1 := Lib.hid hF1
    by_cases hlt : nw.length ≤ k
    · have HWR := Lib.hid (dv_write_out k S hD hlt (by omega))
      have HLT := Lib.hid hlt
      clear hD hF1 hlt
      go_wp2_with fail
      refine HWR.out.mono ?_
      rintro e w3 ⟨rfl, hD3, hS3⟩
      have HX := Lib.hid (And.intro hD3 hS3)
      clear hD3 hS3
      go_wp2
      go_ret
      unfold MwPost
      rw [if_neg (by omega), if_pos HLT.out]
      exact ⟨rfl, HX.out.1, (Step.still HB1.out).trans HX.out.2⟩
    · have HWR := Lib.hid (dv_write k S hD (by omega) HSZ2.out HW.out (by omega))
      have HLT := Lib.hid hlt
      clear hD hF1 hlt
      go_wp2_with fail
      refine HWR.out.mono ?_
      rintro e w3 ⟨he, F', hD3, hS3⟩
      have e1 : opFl false 0 = false := rfl
      have e2 : opLf false 0 = 0 := rfl
      rw [e1, e2] at hD3
      rw [e1] at he
      obtain rfl : e = .returned (.int .i64 0) := he
      have HX := Lib.hid (And.intro hD3 hS3)
      clear hD3 hS3 e1 e2
      go_wp2
      go_ret
      unfold MwPost
      rw [if_neg (by omega), if_neg HLT.out]
      exact ⟨rfl, F', HX.out.1, (Step.still HB1.out).trans HX.out.2⟩
  · have hcb : (c' != 0) = true := by rw [bne_iff_ne]; exact hc
    have HC := Lib.hid hc
    clear hc
    go_enter Tryd.func19, Tryd.ntmps19
    go_wp2_with fail
    refine (HPU.out _).mono ?_
    rintro e w1 ⟨rfl, hb1⟩
    have HB1 : Hid (Below w.heap.size w w1) := Lib.hid ((HB0.out _).trans (hb1.mono (by simp)))
    clear hb1
    go_wp2
    go_ret
    unfold MwPost
    rw [if_pos HC.out]
    exact ⟨rfl, H.out.keep (Fr.of_all (S := fun _ => False) HB1.out) (fun _ _ h => h), Step.still HB1.out⟩
end Go.Proofs.YtpoiopjggmhnjaaDoor

/- MetaTells: the device and the document's one, side by side. -/
namespace Go.Proofs.YtpoiopjggmhnjaaDoor
open Go.RowKit

/-- Both devices, apart; each page is the same in both. -/
structure TSt (base db rb q : Nat) (sy nw : List ByteArray) (ws Ws : List Wr) (F : Nat → Prop) (lv wv : Value) (W : World) : Prop where
  d : Dv db base 2 true false 0 sy nw ws F W
  r : RDv rb base lv wv (List.replicate q page0) Ws W
  len : nw.length = q
  same : ∀ j, j < q → nw.getD j default = nowOf (List.replicate q page0) Ws j
  fr : ∀ j, F j → ¬ rdF rb lv wv j
def TSI (base db rb q n : Nat) (W : World) : Prop := ∃ sy nw ws Ws F lv wv, TSt base db rb q sy nw ws Ws F lv wv W ∧ ws.length ≤ n ∧ Ws.length ≤ n

section
variable {base db rb q n : Nat} {W W' : World}
theorem TSI.below (h : TSI base db rb q n W) (hb : Below W.heap.size W W') : TSI base db rb q n W' := by
  obtain ⟨sy, nw, ws, Ws, F, lv, wv, h, h1, h2⟩ := h
  exact ⟨sy, nw, ws, Ws, F, lv, wv, ⟨h.d.keep (Fr.of_all (S := fun _ => False) hb) (fun _ _ h => h), h.r.below hb, h.len, h.same, h.fr⟩, h1, h2⟩
theorem TSI.bs (h : TSI base db rb q n W) : base ≤ W.heap.size := by
  obtain ⟨sy, nw, ws, Ws, F, lv, wv, h, h1, h2⟩ := h
  exact h.r.bs
theorem TSI.more {m : Nat} (h : TSI base db rb q n W) (hm : n ≤ m) : TSI base db rb q m W := by
  obtain ⟨sy, nw, ws, Ws, F, lv, wv, h, h1, h2⟩ := h
  exact ⟨sy, nw, ws, Ws, F, lv, wv, h, by omega, by omega⟩

theorem now_set {nw : List ByteArray} {L : List ByteArray} {Ws : List Wr} {k : Nat} {s : ByteArray} (h : ∀ j, j < q → nw.getD j default = nowOf L Ws j) (hl : nw.length = q) : ∀ j, j < q → (nw.set k s).getD j default = nowOf L (Ws ++ [((k : Int), s)]) j := fun j hj => by
  have e : nowOf L (Ws ++ [((k : Int), s)]) j = if (k : Int) = (j : Int) then s else nowOf L Ws j := by
    unfold nowOf
    rw [List.foldl_append]
    rfl
  rw [e, ← h j hj, List.getD_eq_getElem?_getD, List.getElem?_set, List.getD_eq_getElem?_getD]
  by_cases hk : k = j
  · subst hk
    rw [if_pos rfl, if_pos (by omega), if_pos rfl]
    rfl
  · rw [if_neg hk, if_neg (by omega)]

/-- The reference's Write behind the real one's. -/
theorem ts_ref {sy nw : List ByteArray} {ws Ws : List Wr} {F : Nat → Prop} {lv wv : Value} {W1 : World} (k : Nat) (s : ByteArray) (h : TSt base db rb q sy nw ws Ws F lv wv W) (hk : k < q) (hs : s.size = 256) (h1 : ws.length ≤ n) (h2 : Ws.length ≤ n) (hn : n ≤ 100) {F' : Nat → Prop}
    (hD : Dv db base 2 true false 0 sy (nw.set k s) (ws ++ [((k : Int), s)]) F' W1) (hS : Step F F' W W1) {W2 : World} (hb : Below W1.heap.size W1 W2) :
    Calls Tryd.prog 18 #[.pointer (some ⟨rb, 0, none⟩), .int .i64 k, .string s] W2 fun e w' => e = .returned (.int .i64 0) ∧ TSI base db rb q (n + 1) w' ∧ Below base W w' := by
  have hr1 : RDv rb base lv wv (List.replicate q page0) Ws W1 := h.r.keep hS.1 (fun k hk hf => h.fr k hf hk)
  have hr2 := hr1.below hb
  have hd2 := hD.keep (Fr.of_all (S := fun _ => False) hb) (fun _ _ h => h)
  refine (rdv_write k s hr2 (by rw [List.length_replicate]; exact hk) hs (by omega)).mono ?_
  rintro e w' ⟨rfl, wv', hr, hF, hnew⟩
  have hnd : ∀ j, F' j → ¬ rdF rb lv wv j := fun j hj hr => by
    rcases hS.2 j hj with h9 | h9
    · exact h.fr j h9 hr
    · have := (h.r.lt j hr).2
      omega
  refine ⟨rfl, ⟨sy, nw.set k s, _, _, F', lv, wv', ⟨hd2.keep hF (fun j hj e => hnd j hj (.inl e)), hr, by rw [List.length_set]; exact h.len, now_set h.same h.len, fun j hj e => ?_⟩, by simp; omega, by simp; omega⟩, ?_⟩
  · rcases e with e | e | e
    · exact hnd j hj (.inl e)
    · exact hnd j hj (.inr (.inl e))
    · have h8 := hnew j e
      have h7 := hd2.lt j hj
      omega
  · have b1 : Below base W W1 := hS.1.below h.r.bs (fun i hi => h.d.ge i hi)
    have b2 := b1.trans (hb.mono (Nat.le_trans h.r.bs b1.size))
    exact b2.trans (hF.below (Nat.le_trans h.r.bs b2.size) (fun i hi => by rw [show i = rb from hi]; exact h.r.bb))

/-- Write, of both. -/
theorem ts_write (k : Nat) (s : ByteArray) (h : TSI base db rb q n W) (hs : s.size = 256) (hn : n ≤ 100) :
    Calls Tryd.prog 17 #[.pointer (some ⟨db, 0, none⟩), .int .i64 k, .string s] W fun e w' => ∃ c : Int, e = .returned (.int .i64 c) ∧ Below base W w' ∧
      Calls Tryd.prog 18 #[.pointer (some ⟨rb, 0, none⟩), .int .i64 k, .string s] w' fun e2 w'' => e2 = .returned (.int .i64 c) ∧ TSI base db rb q (n + 1) w'' ∧ Below base W w'' := by
  obtain ⟨sy, nw, ws, Ws, F, lv, wv, h, h1, h2⟩ := h
  by_cases hk : k < q
  · refine (dv_write k s h.d (by rw [h.len]; exact hk) hs (by omega) (by omega)).mono ?_
    rintro e w1 ⟨he, F', hD, hS⟩
    have e1 : opFl false 0 = false := rfl
    have e2 : opLf false 0 = 0 := rfl
    rw [e1, e2] at hD
    rw [e1] at he
    exact ⟨0, he, hS.1.below h.r.bs (fun i hi => h.d.ge i hi), ts_ref k s h hk hs h1 h2 hn hD hS (Below.refl _ _)⟩
  · refine (dv_write_out k s h.d (by rw [h.len]; omega) (by omega)).mono ?_
    rintro e w1 ⟨rfl, hD, hS⟩
    have b1 : Below base W w1 := hS.1.below h.r.bs (fun i hi => h.d.ge i hi)
    have hr1 : RDv rb base lv wv (List.replicate q page0) Ws w1 := h.r.keep hS.1 (fun k hk hf => h.fr k hf hk)
    refine ⟨3, rfl, b1, (rdv_write_out k s hr1 (by rw [List.length_replicate]; omega)).mono ?_⟩
    rintro e w2 ⟨rfl, rfl⟩
    exact ⟨rfl, ⟨sy, nw, ws, Ws, F, lv, wv, ⟨hD, hr1, h.len, h.same, h.fr⟩, by omega, by omega⟩, b1⟩

/-- A meta's Write; then, if it has room, the reference's. -/
theorem ts_mwrite (a b c d : Int) (S : ByteArray) (c' : Int) (k : Nat) (hp : PutA a b c d S c') (hk : (a % 2) = (k : Int)) (h : TSI base db rb q n W) (hn : n ≤ 100) :
    Calls Tryd.prog 19 #[.pointer (some ⟨db, 0, none⟩), .agg #[.int .i64 a, .int .i64 b, .int .i64 c, .int .i64 d]] W fun e w' => ∃ z : Int, e = .returned (.int .i64 z) ∧ Below base W w' ∧ (c' ≠ 0 → z = c' ∧ TSI base db rb q (n + 1) w') ∧
      (c' = 0 → Calls Tryd.prog 18 #[.pointer (some ⟨rb, 0, none⟩), .int .i64 k, .string S] w' fun e2 w'' => e2 = .returned (.int .i64 z) ∧ TSI base db rb q (n + 1) w'' ∧ Below base W w'') := by
  obtain ⟨sy, nw, ws, Ws, F, lv, wv, h, h1, h2⟩ := h
  refine (mwrite_any a b c d S c' k hp hk h.d (by omega)).mono ?_
  rintro e w1 hP
  unfold MwPost at hP
  by_cases hc : c' ≠ 0
  · rw [if_pos hc] at hP
    obtain ⟨rfl, hD, hS⟩ := hP
    exact ⟨c', rfl, hS.1.below h.r.bs (fun i hi => h.d.ge i hi), fun _ => ⟨rfl, sy, nw, ws, Ws, F, lv, wv, ⟨hD, h.r.keep hS.1 (fun k hk hf => h.fr k hf hk), h.len, h.same, h.fr⟩, by omega, by omega⟩, fun e => absurd e hc⟩
  · have hc0 : c' = 0 := by omega
    rw [if_neg hc] at hP
    by_cases hk2 : nw.length ≤ k
    · rw [if_pos hk2] at hP
      obtain ⟨rfl, hD, hS⟩ := hP
      have b1 : Below base W w1 := hS.1.below h.r.bs (fun i hi => h.d.ge i hi)
      have hr1 : RDv rb base lv wv (List.replicate q page0) Ws w1 := h.r.keep hS.1 (fun k hk hf => h.fr k hf hk)
      refine ⟨3, rfl, b1, fun e => absurd hc0 e, fun _ => (rdv_write_out k S hr1 (by rw [List.length_replicate, ← h.len]; exact hk2)).mono ?_⟩
      rintro e w2 ⟨rfl, rfl⟩
      exact ⟨rfl, ⟨sy, nw, ws, Ws, F, lv, wv, ⟨hD, hr1, h.len, h.same, h.fr⟩, by omega, by omega⟩, b1⟩
    · rw [if_neg hk2] at hP
      obtain ⟨rfl, F', hD, hS⟩ := hP
      exact ⟨0, rfl, hS.1.below h.r.bs (fun i hi => h.d.ge i hi), fun e => absurd hc0 e, fun _ => ts_ref k S h (by rw [← h.len]; omega) (hp.2.2.1 hc0) h1 h2 hn hD hS (Below.refl _ _)⟩

/-- Choose, of both. -/
theorem ts_choose (h : TSI base db rb q n W) (hq : q = 1 ∨ q = 2) (hn : n ≤ 100) : ∃ (m : Mt) (z : Int),
    (∀ W', Below W.heap.size W W' → Calls Tryd.prog 20 #[.pointer (some ⟨db, 0, none⟩)] W' fun e w' => e = .returned (.tuple #[mtv m, .int .i64 z]) ∧ Below W'.heap.size W' w') ∧
    (∀ W', Below W.heap.size W W' → Calls Tryd.prog 21 #[.pointer (some ⟨rb, 0, none⟩)] W' fun e w' => e = .returned (.tuple #[mtv m, .int .i64 z]) ∧ Below W'.heap.size W' w') := by
  obtain ⟨sy, nw, ws, Ws, F, lv, wv, h, h1, h2⟩ := h
  have hlr : (List.replicate q page0).length = q := List.length_replicate
  obtain ⟨m, c, hm⟩ := get_m 0 (nw.getD 0 default)
  rcases hq with rfl | rfl
  · refine ⟨mt0, 3, fun W' hb => ?_, fun W' hb => ?_⟩
    · exact meta_choose_one (fun _ => rr m c) (h.d.keep (Fr.of_all (S := fun _ => False) hb) (fun _ _ h => h)) h.len (fun k hk W => by
        obtain rfl : k = 0 := by omega
        exact hm.is W)
    · exact ref_chooseOne (h.r.below hb) hlr (by omega)
  · obtain ⟨x, d, hx⟩ := get_m 1 (nw.getD 1 default)
    refine ⟨(choice m c x d).getD mt0, chE (choice m c x d), fun W' hb => ?_, fun W' hb => ?_⟩
    · exact meta_choose_g (two (rr m c) (rr x d)) (h.d.keep (Fr.of_all (S := fun _ => False) hb) (fun _ _ h => h)) (by rw [h.len]; omega) (fun k hk W => by
        match k, hk with
        | 0, _ => exact hm.is W
        | 1, _ => exact hx.is W)
    · exact ref_chooseOf m x c d (h.r.below hb) hlr (by omega) (by rw [← h.same 0 (by omega)]; exact hm) (by rw [← h.same 1 (by omega)]; exact hx)
end

/-- Where both begin: grown. -/
theorem ts_grow {base db rb : Nat} {F : Nat → Prop} {W : World} (q : Nat) (hD : Dv db base 2 true false 0 [] [] [] F W) (hr : RDv rb base (.slice none 0 0) (.slice none 0 0) [] [] W) (hf : ∀ j, F j → j ≠ rb) (hq : q ≤ 2) :
    Calls Tryd.prog 15 #[.pointer (some ⟨db, 0, none⟩), .int .i64 q] W fun e w' => e = .returned (.int .i64 0) ∧ Below base W w' ∧
      Calls Tryd.prog 16 #[.pointer (some ⟨rb, 0, none⟩), .int .i64 q] w' fun e2 w'' => e2 = .returned (.int .i64 0) ∧ TSI base db rb q 0 w'' ∧ Below base W w'' := by
  refine (dv_grow q hD (by simp) (by omega) (by omega)).mono ?_
  rintro e w1 ⟨rfl, F', hD1, hS⟩
  have b1 : Below base W w1 := hS.1.below hr.bs (fun i hi => hD.ge i hi)
  have hr1 := hr.keep hS.1 (fun k hk hF => by
    rcases hk with e | e | e
    · exact hf k hF e
    · cases e
    · cases e)
  refine ⟨rfl, b1, (rdv_grow q hr1 hq).mono ?_⟩
  rintro e w2 ⟨rfl, lv', hr2, hF, hnew⟩
  have hd : ∀ j, F' j → j ≠ rb := fun j hj e => by
    rcases hS.2 j hj with h9 | h9
    · exact hf j h9 e
    · have := cell_lt hr.c0
      have h8 : rb < W.heap.size := this
      omega
  simp only [List.length_nil, Nat.sub_zero, List.nil_append] at hD1
  refine ⟨rfl, ⟨_, _, [], [], F', lv', _, ⟨hD1.keep hF (fun j hj e => hd j hj e), hr2, by simp, fun j hj => ?_, fun j hj e => ?_⟩, by simp, by simp⟩, b1.trans (hF.below (Nat.le_trans hr.bs b1.size) (fun i hi => by rw [show i = rb from hi]; exact hr.bb))⟩
  · simp [nowOf]
  · rcases e with e | e | e
    · exact hd j hj e
    · have := hnew j e
      have := hD1.lt j hj
      omega
    · cases e
end Go.Proofs.YtpoiopjggmhnjaaDoor

