/- free's Free: slices.DeleteFunc with the function that Release hands on. -/
import Derived.Test.YtedcpckocedcoaaGreatFreeI
import Derived.Lib.SliceRun
import Derived.Laws.OwnMore
namespace Go.Proofs.YtedcpckocedcoaaGreat
open Go.RowKit

theorem zero_wait (w : World) : (zeroValue 81).run Tryz.prog w = .ok (.agg #[.int .i64 0, .int .i64 0]) w := by kernel_rfl

theorem run_clear2 (w : World) (ty : TypeId) (b o n c : Nat) (hn : 0 < n)
    (hc : ∀ j, j < n * 2 → (w.cell? ⟨b, o + j, none⟩).isSome = true) (hf : ∀ j, j < n * 2 → w.frozen? ⟨b, o + j, none⟩ = false) :
    (Builtin.clear_ #[36] ty #[.slice (some ⟨b, o, none⟩) n c]).run Tryz.prog w = .ok (.tuple #[]) (w.setCells b o (List.replicate (n * 2) (.int .i64 0))) := by
  have hzc : (Builtin.zeroCells (Value.agg #[.int .i64 0, .int .i64 0]).cells n).toList = List.replicate (n * 2) (.int .i64 0) := by
    simp only [Value.cells, Builtin.zeroCells]
    apply List.ext_getElem
    · simp
    · intro i h1 h2
      rcases Nat.mod_two_eq_zero_or_one i with h | h <;> simp [h]
  have hst := run_storeCells_cells (P := Tryz.prog) b o (List.replicate (n * 2) (Value.int .i64 0)) 0 w (by simpa using hc) (by simpa using hf) (by intro v hv'; rw [List.eq_of_mem_replicate hv']; rfl)
  simp only [Nat.add_zero] at hst
  obtain ⟨m, rfl⟩ : ∃ m, n = m + 1 := ⟨n - 1, by omega⟩
  simp [Builtin.clear_, run_underlying Tryz.underlying36, hzc, hst]

theorem setCells_row {base n g cap s : Nat} {e : TypeId} : ∀ (vs : List Value) (o : Nat) (w : World) (xs : List Value), w.ownsRow base e s (.slice (some ⟨g, 0, none⟩) n cap) n xs →
    ∃ xs', (w.setCells g o vs).ownsRow base e s (.slice (some ⟨g, 0, none⟩) n cap) n xs' ∧ xs'.take o = xs.take o ∧ Fr (fun k => k = g) w (w.setCells g o vs)
  | [], o, w, xs, h => ⟨xs, h, rfl, Fr.refl _ _⟩
  | v :: vs, o, w, xs, h => by
    have h1 := (h.stored o v).1
    obtain ⟨xs', h2, h3, h4⟩ := setCells_row vs (o + 1) _ _ h1
    refine ⟨xs', h2, ?_, Fr.trans ((Fr.refl (fun k => k = g) w).setCell (p := ⟨g, o, none⟩) (fun _ => rfl) v) h4 (fun i hi _ => hi)⟩
    have e1 : xs'.take o = (xs'.take (o + 1)).take o := by rw [List.take_take, Nat.min_eq_left (by omega)]
    rw [e1, h3, List.take_take, Nat.min_eq_left (by omega), List.take_set_of_le (by omega)]

theorem ownsRow_cut {w : World} {base n g cap s i : Nat} {e : TypeId} {xs : List Value} (h : w.ownsRow base e s (.slice (some ⟨g, 0, none⟩) n cap) n xs) (hi : i ≤ n) : w.ownsRow base e s (.slice (some ⟨g, 0, none⟩) i cap) i (xs.take (i * s)) := by
  have hm : i * s ≤ n * s := Nat.mul_le_mul_right s hi
  rcases h.2 with ⟨h0, _⟩ | ⟨g', c', cur, e0, hb, hh, h1, h2, h3, h4⟩
  · cases h0
  · injection e0 with e1 _ e2
    injection e1 with e1
    injection e1 with e1 _ _
    subst e1 e2
    refine ⟨by rw [List.length_take, h.1]; omega, .inr ⟨g, cap, cur, rfl, hb, hh, by omega, h2, h3, ?_⟩⟩
    rw [← h4, List.take_take, Nat.min_eq_left hm]

theorem rowOf_set2 {α : Type} (f : α → List Value) (hf : ∀ x, (f x).length = 2) (l : List α) (k : Nat) (x : α) (a b : Value) (hx : f x = [a, b]) (hk : k < l.length) :
    ((rowOf f l).set (k * 2) a).set (k * 2 + 1) b = rowOf f (l.set k x) := by
  induction l generalizing k with
  | nil => simp at hk
  | cons y l ih =>
    cases k with
    | zero =>
      have hy := hf y
      match hfy : f y, hy with
      | [p, q], _ => simp [rowOf, hfy, hx]
    | succ k =>
      have h1 : rowOf f (y :: l) = f y ++ rowOf f l := by simp [rowOf]
      have h2 : rowOf f ((y :: l).set (k + 1) x) = f y ++ rowOf f (l.set k x) := by simp [rowOf]
      rw [h1, h2, ← ih k (by simpa using hk)]
      have hl := hf y
      rw [List.set_append_right _ _ (by omega), List.set_append_right _ _ (by omega), hl,
        show (k + 1) * 2 - 2 = k * 2 by omega, show (k + 1) * 2 + 1 - 2 = k * 2 + 1 by omega]

theorem rowOf_take2 {α : Type} (f : α → List Value) (hf : ∀ x, (f x).length = 2) (l : List α) (k : Nat) : (rowOf f l).take (k * 2) = rowOf f (l.take k) := by
  induction l generalizing k with
  | nil => simp [rowOf]
  | cons y l ih =>
    cases k with
    | zero => simp [rowOf]
    | succ k =>
      have h1 : rowOf f (y :: l) = f y ++ rowOf f l := by simp [rowOf]
      have h2 : rowOf f ((y :: l).take (k + 1)) = f y ++ rowOf f (l.take k) := by simp [rowOf]
      have hl := hf y
      rw [h1, h2, ← ih k, List.take_append, List.take_of_length_le (by omega), hl, show (k + 1) * 2 - 2 = k * 2 by omega]

/-- As the deleting goes on: R stands there; i are kept of the first j. -/
structure Kept (go : Int × Int → Bool) (ws : List (Int × Int)) (i j : Nat) (R : List (Int × Int)) : Prop where
  len : R.length = ws.length
  low : R.take i = (ws.take j).filter (fun x => !go x)
  high : R.drop j = ws.drop j
  le : i < j
  lt : j ≤ ws.length
section
variable {go : Int × Int → Bool} {ws R : List (Int × Int)} {i j : Nat}
theorem Kept.at (h : Kept go ws i j R) : R.getD j default = ws.getD j default := by
  have h1 := congrArg (fun l => l[0]?) h.high
  simp only [List.getElem?_drop, Nat.add_zero] at h1
  rw [List.getD, List.getD, h1]
theorem take_next (hj : j < ws.length) : ws.take (j + 1) = ws.take j ++ [ws.getD j default] := by
  rw [List.take_succ_eq_append_getElem hj]
  simp [hj]
theorem Kept.keep (h : Kept go ws i j R) (hj : j < ws.length) (hg : go (ws.getD j default) = false) : Kept go ws (i + 1) (j + 1) (R.set i (ws.getD j default)) := by
  have hi : i < R.length := by have := h.len; have := h.le; omega
  refine ⟨by rw [List.length_set]; exact h.len, ?_, ?_, by have := h.le; omega, by omega⟩
  · rw [take_next hj, List.filter_append, ← h.low, List.take_succ_eq_append_getElem (by rw [List.length_set]; exact hi), List.take_set_of_le (Nat.le_refl _), List.getElem_set_self]
    congr 1
    simp only [List.filter_cons, hg, List.filter_nil, Bool.not_false, if_true]
  · rw [List.drop_set_of_lt (by have := h.le; omega)]
    have e := congrArg (fun l => l.drop 1) h.high
    simp only [List.drop_drop] at e
    exact e
theorem Kept.skip (h : Kept go ws i j R) (hj : j < ws.length) (hg : go (ws.getD j default) = true) : Kept go ws i (j + 1) R := by
  refine ⟨h.len, ?_, ?_, by have := h.le; omega, by omega⟩
  · rw [take_next hj, List.filter_append, h.low]
    simp only [List.filter_cons, hg, List.filter_nil, Bool.not_true, Bool.false_eq_true, if_false, List.append_nil]
  · have e := congrArg (fun l => l.drop 1) h.high
    simp only [List.drop_drop] at e
    exact e
theorem filter_none (ws : List (Int × Int)) (k : Nat) (hk : k ≤ ws.length) (h : ∀ j, j < k → go (ws.getD j default) = false) : (ws.take k).filter go = [] ∧ (ws.take k).filter (fun x => !go x) = ws.take k := by
  have hall : ∀ x ∈ ws.take k, go x = false := fun x hx => by
    obtain ⟨j, hj, rfl⟩ := List.getElem_of_mem hx
    rw [List.length_take] at hj
    have := h j (by omega)
    rw [List.getElem_take]
    simpa [show j < ws.length by omega] using this
  exact ⟨List.filter_eq_nil_iff.2 (fun x hx => by simp [hall x hx]), List.filter_eq_self.2 (fun x hx => by simp [hall x hx])⟩
theorem Kept.start {k : Nat} (hk : k < ws.length) (h : ∀ j, j < k → go (ws.getD j default) = false) (hg : go (ws.getD k default) = true) : Kept go ws k (k + 1) ws := by
  refine ⟨rfl, ?_, rfl, by omega, by omega⟩
  rw [take_next hk, List.filter_append, (filter_none ws k (by omega) h).2]
  simp only [List.filter_cons, hg, List.filter_nil, Bool.not_true, Bool.false_eq_true, if_false, List.append_nil]
end

section
variable {Bp Bb Bf fb base : Nat} {pinned : Bool} {border : Int} {v0 : Value} {l0 : List Int} {w0 wr : World}
theorem not_cur {k : Nat} {cur : Array Value} {fz : Nat × Nat} (hb : wr.heap[k]? = some (.cells cur 81 fz)) (hf : k ≠ fb) : ¬ curF fb base wr k := by
  rintro (e | ⟨v, l, hI, hv⟩)
  · exact hf e
  · obtain ⟨c2, e2, _⟩ := row_block hI.1.2.2.1 hv
    rw [hb] at e2
    injection e2 with e2
    injection e2 with _ e2 _
    cases e2
theorem row_not_cur {g : Nat} {vw : Value} {n : Nat} {xs : List Value} (ho : wr.ownsRow base 81 2 vw n xs) (hg : vw.ownBlock = some g) (hf : g ≠ fb) : ¬ curF fb base wr g := by
  obtain ⟨c1, e1, _⟩ := row_block ho hg
  exact not_cur e1 hf

theorem own_eq {g k n cap : Nat} (hk : (Value.slice (some ⟨g, 0, none⟩) n cap).ownBlock = some k) : k = g := by
  have : g = k := by simpa [Value.ownBlock] using hk
  exact this.symm
/-- What is left behind it. -/
def DelR (fb base : Nat) (v0 : Value) (l0 : List Int) (g : Nat) (w0 : World) (go : Int × Int → Bool) (ws : List (Int × Int)) (u : Value) (w' : World) : Prop :=
  w'.ownsRow base 81 2 u (ws.filter (fun x => !go x)).length (rowOf wtcells (ws.filter (fun x => !go x))) ∧ (∀ k, u.ownBlock = some k → k = g) ∧ PutS fb base v0 l0 (fun k => k = g) w0 (pagesOf (ws.filter go)) w'

set_option maxHeartbeats 4000000 in
set_option maxRecDepth 100000 in
theorem del_rel (g cap : Nat) (ws : List (Int × Int)) (ho : w0.ownsRow base 81 2 (.slice (some ⟨g, 0, none⟩) ws.length cap) ws.length (rowOf wtcells ws)) (hgp : ¬ pileF fb v0 g)
    (hE : RelE Bp Bb Bf fb pinned border w0) (h1 : ¬ (pileF fb v0 Bp ∨ Bp = g)) (h2 : ¬ (pileF fb v0 Bb ∨ Bb = g)) (h3 : ¬ (pileF fb v0 Bf ∨ Bf = g)) (hI : PileI fb base v0 l0 w0) (hn : l0.length + ws.length < 900000) :
    Calls Tryz.prog 46 #[.slice (some ⟨g, 0, none⟩) ws.length cap, clV Bp Bb Bf] w0 fun e w' => ∃ u, e = .returned u ∧ DelR fb base v0 l0 g w0 (goes pinned border) ws u w' := by
  have hgf : g ≠ fb := fun e => hgp (.inl e)
  have hgl : g < w0.heap.size := by
    obtain ⟨_, hb, _⟩ := row_block (g := g) ho rfl
    exact (Array.getElem?_eq_some_iff.1 hb).1
  have HIX := Lib.hid (idx_rel g cap (some ⟨g, 0, none⟩) ws (fun _ => ⟨rfl, hgl, hgp⟩) (fun k hk => row2_cell ho k hk) hE (fun h => h1 (.inl h)) (fun h => h2 (.inl h)) (fun h => h3 (.inl h)) hI hn)
  have HRC := Lib.hid (fun x wr j (hS : PutS fb base v0 l0 (fun k => k = g) w0 (pagesOf ((ws.take j).filter (goes pinned border))) wr) => by
    obtain ⟨v, l, hI, hp, hF0, hL, hO⟩ := id hS
    refine rel_call x (hE.keep hF0 h1 h2 h3) hS ?_
    have e1 : (pagesOf ((ws.take j).filter (goes pinned border))).length ≤ ws.length := by
      unfold pagesOf
      rw [List.length_map]
      exact Nat.le_trans (List.length_filter_le _ _) (by rw [List.length_take]; omega)
    omega)
  have HO := Lib.hid ho
  have HGF := Lib.hid hgf
  have hbig : ws.length ≤ 1000000 := by omega
  have HGP := Lib.hid hgp
  clear ho hE h1 h2 h3 hI hgp hgf
  generalize clV Bp Bb Bf = cl at *
  go_enter Tryz.func46, Tryz.ntmps46
  go_wp2_with fail
  refine HIX.out.mono ?_
  rintro e w1 ⟨r, rfl, hr⟩
  have HROW : Hid (∀ ps W, PutS fb base v0 l0 (fun _ => False) w0 ps W → W.ownsRow base 81 2 (.slice (some ⟨g, 0, none⟩) ws.length cap) ws.length (rowOf wtcells ws)) := Lib.hid (fun ps W hS => by
    obtain ⟨v, l, hI, hp, hF0, hL, hO⟩ := hS
    refine hF0.owns HO.out (fun k hk h => ?_)
    have : g = k := by simpa [Value.ownBlock] using hk
    subst this
    exact h.elim HGP.out id)
  rcases hr with ⟨rfl, hno, hS⟩ | ⟨k, hk, rfl, hno, hyes, hS⟩
  · have HFIN : Hid (DelR fb base v0 l0 g w0 (goes pinned border) ws (.slice (some ⟨g, 0, none⟩) ws.length cap) w1) := Lib.hid (by
      have e := filter_none (go := goes pinned border) ws ws.length (Nat.le_refl _) hno
      rw [List.take_of_length_le (Nat.le_refl _)] at e
      refine ⟨by rw [e.2]; exact HROW.out _ _ hS, fun k hk => ?_, by rw [e.1]; exact hS.mono (fun _ h => h.elim)⟩
      have : g = k := by simpa [Value.ownBlock] using hk
      exact this.symm)
    clear hno hS HROW
    go_wp2
    go_ret
    exact ⟨_, rfl, HFIN.out⟩
  · have HK0 := Lib.hid (Kept.start hk hno hyes)
    have HR0 := Lib.hid (HROW.out _ _ hS)
    have HS0 : Hid (PutS fb base v0 l0 (fun k => k = g) w0 (pagesOf ((ws.take (k + 1)).filter (goes pinned border))) w1) := Lib.hid (by
      rw [take_next hk, List.filter_append, (filter_none ws k (by omega) hno).1]
      simp only [List.filter_cons, hyes, List.filter_nil, if_true, List.nil_append, pagesOf, List.map_cons, List.map_nil]
      exact hS.mono (fun _ h => h.elim))
    clear hno hyes hS HROW HIX HO
    go_wp2
    go_loopw [5, 6, 7] (fun iv jv _ wr => ∃ (i j : Nat) (R : List (Int × Int)), iv = .int .i64 i ∧ jv = .int .i64 j ∧ j ≤ ws.length ∧ i < j ∧ Hid (Kept (goes pinned border) ws i j R) ∧ Hid (wr.ownsRow base 81 2 (.slice (some ⟨g, 0, none⟩) ws.length cap) ws.length (rowOf wtcells R)) ∧ Hid (PutS fb base v0 l0 (fun k => k = g) w0 (pagesOf ((ws.take j).filter (goes pinned border))) wr)) (fun _ jv _ _ => ws.length - (intOf jv).toNat)
    case atStart => exact ⟨k, k + 1, ws, rfl, by go_num, by omega, by omega, HK0, HR0, HS0⟩
    case round =>
      clear HK0 HR0 HS0 hk
      obtain ⟨i, j, R, rfl, rfl, hj, hij, HK, HR, HS⟩ := hrel
      by_cases hlt : j < ws.length
      · have hRl := HK.out.len
        obtain ⟨x0, x1⟩ := row2_cell (ws := R) (by rw [hRl]; exact HR.out) j (by omega)
        rw [HK.out.at] at x0 x1
        have hal : PutS fb base v0 l0 (fun k => k = g) w0 (pagesOf ((ws.take j).filter (goes pinned border))) (wr.alloc (.cells #[.int .i64 (ws.getD j default).1, .int .i64 (ws.getD j default).2] 81)) := HS.out.below ((Below.refl _ wr).alloc (Nat.le_refl _) _)
        have HV := Lib.hid (HRC.out (ws.getD j default) _ j hal)
        have HRA : Hid ((wr.alloc (.cells #[.int .i64 (ws.getD j default).1, .int .i64 (ws.getD j default).2] 81)).ownsRow base 81 2 (.slice (some ⟨g, 0, none⟩) ws.length cap) ws.length (rowOf wtcells R)) := Lib.hid (HR.out.alloc _)
        have HKK : Hid (goes pinned border (ws.getD j default) = false → Kept (goes pinned border) ws (i + 1) (j + 1) (R.set i (ws.getD j default))) := Lib.hid (fun h => HK.out.keep hlt h)
        have HKS : Hid (goes pinned border (ws.getD j default) = true → Kept (goes pinned border) ws i (j + 1) R) := Lib.hid (fun h => HK.out.skip hlt h)
        have HPG : Hid (pagesOf ((ws.take j).filter (goes pinned border)) ++ pagesOf ([ws.getD j default].filter (goes pinned border)) = pagesOf ((ws.take (j + 1)).filter (goes pinned border))) := Lib.hid (by
          rw [take_next hlt, List.filter_append]
          simp [pagesOf])
        have hfl : fb < wr.heap.size := by
          obtain ⟨v, l, hI, _⟩ := HS.out
          exact cell_lt hI.1.1
        have hgl2 : g < wr.heap.size := by
          obtain ⟨_, hb, _⟩ := row_block (g := g) HR.out rfl
          exact (Array.getElem?_eq_some_iff.1 hb).1
        clear hal HS HR
        generalize ws.getD j default = x at *
        obtain ⟨tx, px⟩ := x
        cases hg : goes pinned border (tx, px) with
        | false =>
          rw [HPG.out, hg] at HV
          have HK2 := Lib.hid (HKK.out hg)
          have hRi : i < R.length := by omega
          clear hg HKK HKS HPG HK
          go_wp2_with (first
            | ((with_reducible refine wpV1 HV.out ?_ ?_ ?_ ?_); rfl; rfl; rfl; rintro u w3 ⟨rfl, hS3, hF3⟩
               have hn1 : ¬ curF fb base (wr.alloc (.cells #[.int .i64 tx, .int .i64 px] 81)) wr.heap.size := not_cur (heap_alloc_new wr _) (by omega)
               have hn2 : ¬ curF fb base (wr.alloc (.cells #[.int .i64 tx, .int .i64 px] 81)) g := row_not_cur HRA.out rfl HGF.out
               have ho3 := hF3.owns HRA.out (fun k hk h => hn2 (own_eq hk ▸ h))
               have c0 : w3.cell? ⟨wr.heap.size, 0, none⟩ = some (.int .i64 tx) := (hF3.cell (p := ⟨wr.heap.size, 0, none⟩) (by simp) hn1).trans (by go_simp)
               have c1 : w3.cell? ⟨wr.heap.size, 1, none⟩ = some (.int .i64 px) := (hF3.cell (p := ⟨wr.heap.size, 1, none⟩) (by simp) hn1).trans (by go_simp)
               obtain ⟨y0, y1⟩ := row2_cell (ws := R) (by rw [hRl]; exact ho3) i hRi
               have f0 := ho3.frozenAt (i * 2)
               have f1 := ho3.frozenAt (i * 2 + 1)
               have HO3 := Lib.hid ho3
               have HS3 := Lib.hid hS3
               clear hS3 hF3 hn1 hn2 ho3))
          have hst := (HO3.out.stored (i * 2) (.int .i64 tx)).1.stored (i * 2 + 1) (.int .i64 px)
          have hFS : Fr (fun k => k = g) w3 ((w3.setCell ⟨g, i * 2, none⟩ (.int .i64 tx)).setCell ⟨g, i * 2 + 1, none⟩ (.int .i64 px)) := ((Fr.refl (fun k => k = g) w3).setCell (p := ⟨g, i * 2, none⟩) (fun _ => rfl) _).setCell (p := ⟨g, i * 2 + 1, none⟩) (fun _ => rfl) _
          refine ⟨⟨i + 1, by omega, j + 1, by omega, by omega, by omega, R.set i (tx, px), HK2, Lib.hid ?_, Lib.hid (HS3.out.still hFS (fun k _ hk => ⟨hk, by rw [show k = g from hk]; exact row_not_cur HO3.out rfl HGF.out⟩))⟩, by simp [intOf]; omega⟩
          have e9 := hst.1
          rw [rowOf_set2 wtcells wtcells_length R i (tx, px) _ _ rfl hRi] at e9
          exact e9
        | true =>
          rw [HPG.out, hg] at HV
          have HK2 := Lib.hid (HKS.out hg)
          clear hg HKK HKS HPG HK
          go_wp2_with (first
            | ((with_reducible refine wpV1 HV.out ?_ ?_ ?_ ?_); rfl; rfl; rfl; rintro u w3 ⟨rfl, hS3, hF3⟩
               have hn1 : ¬ curF fb base (wr.alloc (.cells #[.int .i64 tx, .int .i64 px] 81)) wr.heap.size := not_cur (heap_alloc_new wr _) (by omega)
               have hn2 : ¬ curF fb base (wr.alloc (.cells #[.int .i64 tx, .int .i64 px] 81)) g := row_not_cur HRA.out rfl HGF.out
               have ho3 := hF3.owns HRA.out (fun k hk h => hn2 (own_eq hk ▸ h))
               have HO3 := Lib.hid ho3
               have HS3 := Lib.hid hS3
               clear hS3 hF3 hn1 hn2 ho3))
          refine ⟨⟨i, rfl, j + 1, by omega, by omega, by omega, R, HK2, HO3, HS3⟩, by simp [intOf]; omega⟩
      · obtain rfl : j = ws.length := by omega
        have hRl := HK.out.len
        have hcl := run_clear2 wr 0 g (i * 2) (ws.length - i) (cap - i) (by omega) (fun j hj => by
          have hk : (i * 2 + j) / 2 < R.length := by omega
          obtain ⟨y0, y1⟩ := row2_cell (ws := R) (by rw [hRl]; exact HR.out) ((i * 2 + j) / 2) hk
          rcases Nat.mod_two_eq_zero_or_one (i * 2 + j) with h | h
          · rw [show i * 2 + j = (i * 2 + j) / 2 * 2 by omega, y0]; rfl
          · rw [show i * 2 + j = (i * 2 + j) / 2 * 2 + 1 by omega, y1]; rfl) (fun j _ => HR.out.frozenAt _)
        have hcp : ws.length ≤ cap := by
          obtain ⟨_, cp, hv, _, _, hcp⟩ := owns_len HR.out (by omega)
          injection hv with _ _ hv
          subst hv
          exact hcp
        have hcap : i ≤ cap := by omega
        have hcne : ¬ cap = i := by omega
        have HFIN : Hid (DelR fb base v0 l0 g w0 (goes pinned border) ws (.slice (some ⟨g, 0, none⟩) i cap) (wr.setCells g (i * 2) (List.replicate ((ws.length - i) * 2) (.int .i64 0)))) := Lib.hid (by
          obtain ⟨xs', e1, e2, e3⟩ := setCells_row (List.replicate ((ws.length - i) * 2) (Value.int .i64 0)) (i * 2) wr _ HR.out
          have e4 := ownsRow_cut e1 (show i ≤ ws.length by omega)
          have elow := HK.out.low
          rw [List.take_of_length_le (Nat.le_refl ws.length)] at elow
          rw [e2, rowOf_take2 wtcells wtcells_length, elow] at e4
          have elen : (ws.filter (fun x => !goes pinned border x)).length = i := by rw [← elow, List.length_take]; omega
          refine ⟨by rw [elen]; exact e4, fun k hk => own_eq hk, ?_⟩
          have hs := HS.out.still e3 (fun k _ hk => ⟨hk, by rw [show k = g from hk]; exact row_not_cur HR.out rfl HGF.out⟩)
          rw [List.take_of_length_le (Nat.le_refl ws.length)] at hs
          exact hs)
        clear HR HS HK HRC
        go_wp2
        go_ret
        exact ⟨_, rfl, HFIN.out⟩
end
end Go.Proofs.YtedcpckocedcoaaGreat
