/- free.Chain: the walk. -/
import Derived.Test.YtedcpckocedcoaaGreatFCk
import Derived.Test.YtedcpckocedcoaaGreatFCh
import Derived.Maps.AppendAt
namespace Go.Proofs.YtedcpckocedcoaaGreat
open Go.RowKit Go.Shelf
attribute [local go_sem] Oper.semAt_some
theorem wide_fn (f : FuncId) : Fence.wide.fn f = True := eq_true trivial
attribute [local go_sem] wide_fn

/-- Where the loop over the parts stands: B the first of the three boxes, R where rows begin. -/
structure ChS (B R : Nat) (w : World) (zs : List Int) (m : Nat) (v : Value) (W : World) : Prop where
  c2 : W.cell? ⟨B, 0, none⟩ = some (.slice none 0 0)
  c3 : W.cell? ⟨B + 1, 0, none⟩ = some (.int .i64 0)
  c4 : W.cell? ⟨B + 1 + 1, 0, none⟩ = some v
  f2 : W.frozen? ⟨B, 0, none⟩ = false
  f3 : W.frozen? ⟨B + 1, 0, none⟩ = false
  f4 : W.frozen? ⟨B + 1 + 1, 0, none⟩ = false
  row : W.ownsRow R 9 1 v m ((bodies zs m).map Value.string)
  bel : Below B w W
  good : ∀ i, i < 60 * m → i < zs.length → ok32 (HL.el zs i)
  sz : R ≤ W.heap.size
  lo : B + 3 ≤ R
def ChI (B R : Nat) (w : World) (zs : List Int) (pre : List Nat) (W : World) : Prop := ∃ v, ChS B R w zs pre.length v W
def ChX (B : Nat) (w : World) (zs : List Int) (W : World) : Prop :=
  W.cell? ⟨B, 0, none⟩ = some (.slice none 0 0) ∧ W.cell? ⟨B + 1, 0, none⟩ = some (.int .i64 1) ∧ Below B w W ∧ ¬ ∀ i, i < zs.length → ok32 (HL.el zs i)
theorem ChS.fr {B R : Nat} {w : World} {zs : List Int} {m : Nat} {v : Value} {W W' : World} {S : Nat → Prop} (h : ChS B R w zs m v W) (hf : Fr S W W') (hS : ∀ i, S i → B + 3 ≤ i ∧ i < R) : ChS B R w zs m v W' := by
  have h1 := h.lo
  have h2 := h.sz
  have hB : ∀ i, i < B + 3 → ¬ S i := fun i hi h => by have := hS i h; omega
  exact { c2 := (hf.cell (p := ⟨B, 0, none⟩) (by show B < _; omega) (hB (B) (by omega))).trans h.c2
          c3 := (hf.cell (p := ⟨B + 1, 0, none⟩) (by show B + 1 < _; omega) (hB (B + 1) (by omega))).trans h.c3
          c4 := (hf.cell (p := ⟨B + 1 + 1, 0, none⟩) (by show B + 1 + 1 < _; omega) (hB (B + 1 + 1) (by omega))).trans h.c4
          f2 := (hf.frozen (p := ⟨B, 0, none⟩) (by show B < _; omega) (hB (B) (by omega))).trans h.f2
          f3 := (hf.frozen (p := ⟨B + 1, 0, none⟩) (by show B + 1 < _; omega) (hB (B + 1) (by omega))).trans h.f3
          f4 := (hf.frozen (p := ⟨B + 1 + 1, 0, none⟩) (by show B + 1 + 1 < _; omega) (hB (B + 1 + 1) (by omega))).trans h.f4
          row := hf.owns h.row (fun g hg h3 => by have := hS _ h3; have := (h.row.lt g hg).1; omega)
          bel := h.bel.trans (hf.below (by omega) (fun i h => by have := hS _ h; omega))
          good := h.good, sz := Nat.le_trans h.sz hf.size, lo := h.lo }
theorem ChX.fr {B R : Nat} {w : World} {zs : List Int} {W W' : World} {S : Nat → Prop} (h : ChX B w zs W) (hf : Fr S W W') (hS : ∀ i, S i → B + 3 ≤ i ∧ i < R) (hB : B + 3 ≤ W.heap.size) : ChX B w zs W' :=
  ⟨(hf.cell (p := ⟨B, 0, none⟩) (by show B < _; omega) (fun h => by have := hS B h; omega)).trans h.1, (hf.cell (p := ⟨B + 1, 0, none⟩) (by show B + 1 < _; omega) (fun h => by have := hS (B + 1) h; omega)).trans h.2.1,
    h.2.2.1.trans (hf.below (by omega) (fun i h => by have := hS _ h; omega)), h.2.2.2⟩
theorem fr_put (W : World) (j : Nat) (o : Obj) : Fr (fun k => k = j) W (W.putObj j o) :=
  ⟨rfl, rfl, rfl, by simp [World.putObj], fun _ _ h => World.putObj_heap_other (fun e => h e)⟩
theorem own_base {W : World} {b b' : Nat} {e : TypeId} {sz n : Nat} {v : Value} {xs : List Value} (h : W.ownsRow b e sz v n xs) (hb : b' ≤ b) : W.ownsRow b' e sz v n xs := by
  obtain ⟨h1, h2⟩ := h
  refine ⟨h1, h2.imp id ?_⟩
  rintro ⟨g, cap, cur, a, hg, c⟩
  exact ⟨g, cap, cur, a, by omega, c⟩
theorem results_cells2 {fn : Func} {p q : Tmp} {t u : TypeId} (h : fn.results = #[.cell p t, .cell q u]) (tmps : Array Value) (P : Program) (W : World) (a b : Addr) (x y : Value) (ha : tmps.getD p undef = .pointer (some a)) (hb : tmps.getD q undef = .pointer (some b))
    (hx : (loadVar t a).run P W = .ok x W) (hy : (loadVar u b).run P W = .ok y W) : (results fn tmps).run P W = .ok (.tuple #[x, y]) W := by
  have ha' : tmps[p]?.getD undef = .pointer (some a) := by simpa using ha
  have hb' : tmps[q]?.getD undef = .pointer (some b) := by simpa using hb
  simp only [results, h]
  simp [Sem.run_bind, Result.andThen, ha', hb', hx, hy, asAddr]
theorem fr_drewN (W : World) (m : Nat) : Fr (fun _ => False) W (W.drewN m) := (Fr.refl _ W).drewN m

/-- One body more. -/
theorem ChS.next {B R : Nat} {w : World} {zs : List Int} {m : Nat} {v v8 : Value} {W wr w8 : World} {o : Obj} {s : ByteArray} (h : ChS B R w zs m v W) (hb : Below W.heap.size W wr) (hg : (wr.alloc o).grownBy w8 v.ownBlock)
    (ho : w8.ownsRow R 9 1 v8 (m + 1) ((bodies zs m).map Value.string ++ [.string s])) (hs : s = joinF (partOf zs m)) (hgood : ∀ i, i < 60 * (m + 1) → i < zs.length → ok32 (HL.el zs i)) :
    ChS B R w zs (m + 1) v8 (w8.setCell ⟨B + 1 + 1, 0, none⟩ v8) ∧ Fr (fun i => i = B + 2 ∨ v.ownBlock = some i) W (w8.setCell ⟨B + 1 + 1, 0, none⟩ v8) ∧ w8.cell? ⟨B + 1 + 1, 0, none⟩ = some v ∧ w8.frozen? ⟨B + 1 + 1, 0, none⟩ = false := by
  have h1 := h.lo
  have h2 := h.sz
  have hn : ∀ i, i < B + 3 → ¬ v.ownBlock = some i := fun i hi e => by have := (h.row.lt i e).1; omega
  have hF : Fr (fun i => v.ownBlock = some i) W w8 := Fr.trans ((Fr.of_all (S := fun i => v.ownBlock = some i) hb).alloc o) (Fr.of_grown (S := fun i => v.ownBlock = some i) hg (fun _ _ e => e)) (fun _ h _ => h)
  have k2 := (hF.cell (p := ⟨B, 0, none⟩) (by show B < _; omega) (hn B (by omega))).trans h.c2
  have k3 := (hF.cell (p := ⟨B + 1, 0, none⟩) (by show B + 1 < _; omega) (hn (B + 1) (by omega))).trans h.c3
  have k4 := (hF.cell (p := ⟨B + 1 + 1, 0, none⟩) (by show B + 1 + 1 < _; omega) (hn (B + 1 + 1) (by omega))).trans h.c4
  have l2 := (hF.frozen (p := ⟨B, 0, none⟩) (by show B < _; omega) (hn B (by omega))).trans h.f2
  have l3 := (hF.frozen (p := ⟨B + 1, 0, none⟩) (by show B + 1 < _; omega) (hn (B + 1) (by omega))).trans h.f3
  have l4 := (hF.frozen (p := ⟨B + 1 + 1, 0, none⟩) (by show B + 1 + 1 < _; omega) (hn (B + 1 + 1) (by omega))).trans h.f4
  have hF2 : Fr (fun i => i = B + 2 ∨ v.ownBlock = some i) W (w8.setCell ⟨B + 1 + 1, 0, none⟩ v8) := (hF.mono (fun i _ e => .inr e)).setCell (p := ⟨B + 1 + 1, 0, none⟩) (fun _ => .inl rfl) _
  have hS1 : Fr (fun i => i = B + 2) w8 (w8.setCell ⟨B + 1 + 1, 0, none⟩ v8) := (Fr.refl (fun i => i = B + 2) w8).setCell (p := ⟨B + 1 + 1, 0, none⟩) (fun _ => rfl) _
  refine ⟨?_, hF2, k4, l4⟩
  have h8 := hF.size
  exact { c2 := (hS1.cell (p := ⟨B, 0, none⟩) (by show B < _; omega) (by show ¬ B = B + 2; omega)).trans k2
          c3 := (hS1.cell (p := ⟨B + 1, 0, none⟩) (by show B + 1 < _; omega) (by show ¬ B + 1 = B + 2; omega)).trans k3
          c4 := by go_simp
          f2 := (hS1.frozen (p := ⟨B, 0, none⟩) (by show B < _; omega) (by show ¬ B = B + 2; omega)).trans l2
          f3 := (hS1.frozen (p := ⟨B + 1, 0, none⟩) (by show B + 1 < _; omega) (by show ¬ B + 1 = B + 2; omega)).trans l3
          f4 := by go_simp
          row := by
            have e : (bodies zs (m + 1)).map Value.string = (bodies zs m).map Value.string ++ [.string s] := by rw [bodies_succ, List.map_append, hs]; rfl
            rw [e]
            exact hS1.owns ho (fun g hg e => by have := (ho.lt g hg).1; omega)
          bel := h.bel.trans (hF2.below (by omega) (fun i hi => by
            rcases hi with hi | hi
            · omega
            · have := (h.row.lt i hi).1; omega))
          good := hgood, sz := Nat.le_trans h2 hF2.size, lo := h1 }

set_option maxRecDepth 100000 in
theorem chunk_call (p : Option Addr) (len cap : Nat) (w : World) :
    Calls Tryz.prog 97 #[.slice p len cap, .int .i64 60] w fun e w' => e = .returned (.func (.func 134) #[] #[.pointer (some ⟨w.heap.size, 0, none⟩), .pointer (some ⟨w.heap.size + 1, 0, none⟩)]) ∧ w' = (w.alloc (.cells #[.slice p len cap] 22)).alloc (.cells #[.int .i64 60] 3) := by
  go_enter Tryz.func97, Tryz.ntmps97
  go_wp2
  go_ret
  exact ⟨rfl, rfl⟩

set_option maxHeartbeats 4000000 in
set_option maxRecDepth 100000 in
theorem chain_in (n : Nat) (hn : 3 ≤ n) (p : Option Addr) (len cap : Nat) (zs : List Int) (w : World) (h : RdI w w.heap.size p len zs) (hl : len ≤ 400) (hcap : len ≤ cap) :
    CallsIn Fence.wide n Tryz.prog 32 #[.slice p len cap] w fun e w' => ChR w.heap.size zs e w' ∧ Below w.heap.size w w' := by
  obtain ⟨i0, hi0, hz0, hz1, hz2⟩ := info_parts info_str
  have h1 : 1 ≤ n := by omega
  have hbl : zs.length = len := h.1
  have HR := Lib.hid h
  clear h
  obtain ⟨b, o, HP⟩ : ∃ b o, Hid (0 < len → p = some ⟨b, o, none⟩ ∧ b < w.heap.size ∧ ∀ k, k < len → w.cell? ⟨b, o + k, none⟩ = some (.int .i64 (HL.el zs k))) := by
    by_cases h0 : 0 < len
    · obtain ⟨b, o, e, hb, hc⟩ := HR.out.2 h0
      exact ⟨b, o, Lib.hid (fun _ => ⟨e, hb, hc⟩)⟩
    · exact ⟨0, 0, Lib.hid (fun h => absurd h h0)⟩
  refine callsIn_of_wp_marks Tryz.func32 rfl trivial ?_ rfl
  simp only [Tryz.ntmps32, List.size_toArray, List.length_cons, List.length_nil, Nat.reduceAdd, Nat.reduceSub, Array.replicate_succ, Array.replicate_zero, List.push_toArray, List.append_toArray, List.nil_append, List.cons_append]
  gi_wp2_with fail
  refine (callsIn_wide.2 (chunk_call p len cap _)).mono ?_
  rintro e w2 ⟨rfl, hw2⟩
  have hs1 : ∃ w1 : World, w1 = (((w.alloc (.cells #[.slice none 0 0] 68)).alloc (.cells #[.int .i64 0] 71)).alloc (.cells #[.slice none 0 0] 68)) := ⟨_, rfl⟩
  obtain ⟨w1, hw1⟩ := hs1
  rw [← hw1] at hw2 ⊢
  have hz1' : w1.heap.size = w.heap.size + 3 := by rw [hw1]; simp
  have hz2' : w2.heap.size = w.heap.size + 5 := by rw [hw2]; simp [hz1']
  have hb2 : Below w1.heap.size w1 w2 := by rw [hw2]; exact ((Below.refl _ w1).alloc (Nat.le_refl _) _).alloc (by simp) _
  have HBS : Hid (w2.cell? ⟨w1.heap.size, 0, none⟩ = some (.slice p len cap)) := Lib.hid (by rw [hw2]; go_simp)
  have HBN : Hid (w2.cell? ⟨w1.heap.size + 1, 0, none⟩ = some (.int .i64 60)) := Lib.hid (by rw [hw2]; go_simp)
  have hS1 : ChS w.heap.size w1.heap.size w zs 0 (.slice none 0 0) w1 :=
    { c2 := by rw [hw1]; go_simp
      c3 := by rw [hw1]; go_simp
      c4 := by rw [hw1]; go_simp
      f2 := by rw [hw1]; go_simp
      f3 := by rw [hw1]; go_simp
      f4 := by rw [hw1]; go_simp
      row := World.ownsRow_nil _ _ _ _
      bel := by rw [hw1]; exact (((Below.refl _ w).alloc (Nat.le_refl _) _).alloc (by simp) _).alloc (by simp; omega) _
      good := fun i hi => by omega
      sz := Nat.le_refl _
      lo := by omega }
  have HST : Hid (∀ o, ChI w.heap.size (w2.heap.size + 2) w zs [] ((w2.alloc (.deferred (some []))).alloc (.loop o))) := Lib.hid (fun o => by
    have hf : Fr (fun _ => False) w1 ((w2.alloc (.deferred (some []))).alloc (.loop o)) := ((Fr.of_all hb2).alloc _).alloc _
    exact ⟨.slice none 0 0, { hS1.fr hf (fun _ h => h.elim) with row := World.ownsRow_nil _ _ _ _, sz := by simp, lo := by omega }⟩)
  have HW1 := Lib.hid hz1'
  have HW2 := Lib.hid hz2'
  have HB2 := Lib.hid hb2
  clear hw1 hw2 hz1' hz2' hb2 hS1
  gi_wp2_with fail
  apply wpIn_range_drew h1 (gf := 134) (lb := #[.pointer (some ⟨w1.heap.size, 0, none⟩), .pointer (some ⟨w1.heap.size + 1, 0, none⟩)]) (by exact rfl) (enters_of Tryz.func134 (by kernel_rfl) rfl)
    (fun x : Nat => #[partV b o len x]) (by intro _; rfl) (KpC w1.heap.size (w1.heap.size + 1)) (fun xs => xs = List.range (nCh len)) (fun _ => True) (ChOk len)
    (fun J Jx W hW hJd hY h0 => (chunk1_in (n - 1) (by omega) (w2.heap.size + 1) w1.heap.size (w1.heap.size + 1) b o len cap (by omega) p (fun h => (HP.out h).1) hcap J Jx hJd hY W
      ((hW.cell (p := ⟨w1.heap.size, 0, none⟩) (by show w1.heap.size < _; have := HW1.out; have := HW2.out; omega)).trans HBS.out) ((hW.cell (p := ⟨w1.heap.size + 1, 0, none⟩) (by show w1.heap.size + 1 < _; have := HW1.out; have := HW2.out; omega)).trans HBN.out) h0).mono
      (fun e W' h9 => ⟨h9.1, h9.2.elim (fun h => .inl ⟨_, rfl, h⟩) (fun ⟨pre, h⟩ => .inr ⟨pre, trivial, h⟩)⟩))
    (fun h1 h2 => h1.trans h2)
    (fun W o hlt => ⟨by simp [World.putObj], World.putObj_heap_other (by have := HW1.out; have := HW2.out; omega), World.putObj_heap_other (by have := HW1.out; have := HW2.out; omega)⟩)
    (ChI w.heap.size (w2.heap.size + 2) w zs) (fun _ W => ChX w.heap.size w zs W)
    (fun pre W o h9 _ => by obtain ⟨v, h9⟩ := h9; exact ⟨v, h9.fr (fr_put W _ _) (fun i hi => by have := HW2.out; omega)⟩) (fun pre W o h9 hlt => ChX.fr (R := w2.heap.size + 2) h9 (fr_put W _ _) (fun i hi => by have := HW2.out; omega) (by have := HW2.out; omega))
    (fun pre W m h9 => by obtain ⟨v, h9⟩ := h9; exact ⟨v, h9.fr (fr_drewN W m) (fun _ h => h.elim)⟩)
    (fun o => HST.out o)
  · intro l x W K hK
    gi_wp2
    exact hK
  · rintro pre x W ⟨v, hS⟩ ⟨hlen, rfl⟩ hlt
    obtain ⟨vp, vc, rfl⟩ := owns_slice hS.row
    obtain ⟨kk, hkk⟩ : ∃ kk, kk = 60 * pre.length := ⟨_, rfl⟩
    obtain ⟨lc, hlc⟩ : ∃ lc, lc = lCh len pre.length := ⟨_, rfl⟩
    have hpv : partV b o len pre.length = .slice (some ⟨b, o + kk, none⟩) lc lc := by unfold partV; rw [← hkk, ← hlc]
    have hkl : kk < len := by unfold nCh at hlen; omega
    have hlc1 : kk + lc ≤ len := by unfold lCh at hlc; omega
    have hlc2 : lc ≤ 60 := by unfold lCh at hlc; omega
    have HLC : Hid ((zs.drop kk).take lc = partOf zs pre.length) := Lib.hid (by
      unfold partOf
      rw [← hkk]
      by_cases h6 : lc = 60
      · rw [h6]
      · have hd : (zs.drop kk).length = lc := by rw [List.length_drop]; unfold lCh at hlc; omega
        rw [List.take_of_length_le (by omega), List.take_of_length_le (by omega)])
    have HGD : Hid (kk + lc = min (60 * (pre.length + 1)) len) := Lib.hid (by unfold lCh at hlc; omega)
    have HKK := Lib.hid hkk
    have HS := Lib.hid hS
    have hpn : pre.length ≤ 7 := by unfold nCh at hlen; omega
    obtain ⟨hpe, hbw, hce⟩ := HP.out (by omega)
    have HCE : Hid (∀ j, j < lc → ∀ V : World, Below w.heap.size w V → V.cell? ⟨b, o + kk + j, none⟩ = some (.int .i64 (HL.el zs (kk + j)))) := Lib.hid (fun j hj V hV => by
      have := hce (kk + j) (by omega)
      rw [← Nat.add_assoc] at this
      exact (hV.cell (p := ⟨b, o + kk + j, none⟩) hbw).trans this)
    rw [hpv]
    clear hlc hkk hpv hce hlen hpe
    clear hS
    gi_wp2_with fail
    gi_loopw [6, 16] (fun sv iv wr => ∃ (j : Nat) (s : ByteArray), j ≤ lc ∧ sv = .string s ∧ iv = .int .i64 j ∧ Hid (s = joinF ((zs.drop kk).take j)) ∧ Hid (∀ i, i < kk + j → i < zs.length → ok32 (HL.el zs i)) ∧ Hid (Below W.heap.size W wr)) (fun _ iv _ => lc - (intOf iv).toNat)
    case atStart => exact ⟨0, ⟨#[]⟩, Nat.zero_le _, rfl, rfl, Lib.hid (by simp [joinF]), Lib.hid (fun i hi => HS.out.good i (by rw [← HKK.out]; omega)), Lib.hid (Below.refl _ _)⟩
    case round =>
      obtain ⟨j, s, hj, rfl, rfl, HJF, HGO, HB⟩ := hrel
      have hss : s.size ≤ 240 := by rw [HJF.out, joinF_size j _ (by rw [List.length_take, List.length_drop]; omega)]; omega
      have hwz : W.heap.size ≤ wr.heap.size := HB.out.size
      by_cases hjl : j < lc
      · obtain ⟨z, hz⟩ : ∃ z, z = HL.el zs (kk + j) := ⟨_, rfl⟩
        have hcx := HCE.out j hjl wr (HS.out.bel.trans (HB.out.mono HS.out.bel.size))
        rw [← hz] at hcx
        have HZ := Lib.hid hz
        have hjI : (j : Int) < (lc : Int) := by omega
        clear hz
        by_cases hok : ok32 z
        · have HC := Lib.hid (num_fix4 z wr hok)
          have HJ2 : Hid (s ++ f4 z = joinF ((zs.drop kk).take (j + 1))) := Lib.hid (by rw [drop_take_succ zs kk j (by omega), joinF_snoc, ← HJF.out, HZ.out])
          have HG2 : Hid (∀ i, i < kk + (j + 1) → i < zs.length → ok32 (HL.el zs i)) := Lib.hid (fun i hi hi2 => by
            rcases Nat.lt_or_ge i (kk + j) with h | h
            · exact HGO.out i h hi2
            · obtain rfl : i = kk + j := by omega
              rw [← HZ.out]
              exact hok)
          have hy4 := f4_size z
          generalize f4 z = y at *
          have hcat : ¬ 9223372036854775807 < s.size + y.size := by omega
          have hcat4 : ¬ 9223372036854775807 < s.size + 4 := by omega
          clear hok
          gi_wp2_with fail
          refine ⟨fun _ => by omega, (CallsIn.inRound _ (callsIn_wide.2 HC.out)).mono ?_⟩
          rintro e w7 ⟨rfl, hb7⟩
          have HB7 : Hid (Below W.heap.size W w7) := Lib.hid (HB.out.trans (hb7.mono hwz))
          clear hb7 HC hcx
          gi_wp2_with fail
          go_roundw
          case rel => exact ⟨j + 1, s ++ y, by omega, rfl, by go_num, HJ2, HG2, HB7⟩
          case measure => simp [intOf]; omega
        · have HC := Lib.hid (num_fix4_bad z wr hok)
          have HNE : Hid (¬ ∀ i, i < zs.length → ok32 (HL.el zs i)) := Lib.hid (fun h => hok (by rw [HZ.out]; exact h (kk + j) (by omega)))
          clear hok
          gi_wp2_with fail
          refine ⟨fun _ => by omega, (CallsIn.inRound _ (callsIn_wide.2 HC.out)).mono ?_⟩
          rintro e w7 ⟨rfl, hb7⟩
          have HS7 := Lib.hid (HS.out.fr (Fr.of_all (S := fun _ => False) (HB.out.trans (hb7.mono hwz))) (fun _ h => h.elim))
          have HF7 : Hid (Fr (fun i => i = w.heap.size ∨ i = w.heap.size + 1) W ((w7.setCell ⟨w.heap.size, 0, none⟩ (.slice none 0 0)).setCell ⟨w.heap.size + 1, 0, none⟩ (.int .i64 1))) := Lib.hid
            (((Fr.of_all (S := fun i => i = w.heap.size ∨ i = w.heap.size + 1) (HB.out.trans (hb7.mono hwz))).setCell (p := ⟨w.heap.size, 0, none⟩) (fun _ => .inl rfl) _).setCell (p := ⟨w.heap.size + 1, 0, none⟩) (fun _ => .inr rfl) _)
          have k2 := HS7.out.c2
          have k3 := HS7.out.c3
          have l2 := HS7.out.f2
          have l3 := HS7.out.f3
          clear hb7 HC hcx
          gi_wp2_with fail
          have hz2 := HS.out.sz
          have hw2 := HW2.out
          refine ⟨⟨HF7.out.block _ (by omega) (by omega), HF7.out.block _ (by omega) (by omega)⟩, by go_simp, by go_simp, HS.out.bel.trans (HF7.out.below (by omega) (fun i hi => by omega)), HNE.out⟩
      · have hje : j = lc := by omega
        have HJE : Hid (s = joinF (partOf zs pre.length)) := Lib.hid (by rw [HJF.out, hje, HLC.out])
        have HGE : Hid (∀ i, i < 60 * (pre.length + 1) → i < zs.length → ok32 (HL.el zs i)) := Lib.hid (fun i hi hi2 => HGO.out i (by have := HGD.out; omega) hi2)
        have hjI : ¬ (j : Int) < (lc : Int) := by omega
        have HSR := Lib.hid (HS.out.fr (Fr.of_all (S := fun _ => False) HB.out) (fun _ h => h.elim))
        have k4 := HSR.out.c4
        have l4 := HSR.out.f4
        have hzr := HSR.out.sz
        clear hje
        gi_wp2_with (gi_at_builtin; refine wpListIn_append_own _ rfl _ _ 68 rfl (w2.heap.size + 2) 9 i0 (.string ByteArray.empty) 1 16 Tryz.underlying68 hi0 hz0 hz1 hz2 rfl (by decide) (.slice vp pre.length vc) pre.length ((bodies zs pre.length).map Value.string) rfl (HSR.out.row.alloc _) ⟨wr.heap.size, 0, none⟩ 1 1 [.string s] rfl rfl (cell_one_new _ _ _) (by simp [Value.oneCell']) (by unfold maxLen; omega) (by omega) (by simp; omega) ?_; intro v8 w8 hown hgr _; obtain ⟨g8, c8, rfl⟩ := ownsRow_succ hown; obtain ⟨N1, N2, N3, N4⟩ := HS.out.next HB.out hgr hown HJE.out HGE.out; have HN1 := Lib.hid N1; have HN2 := Lib.hid N2; clear N1 N2 hown hgr)
        have hz2 := HS.out.sz
        have hw1 := HW1.out
        have hw2 := HW2.out
        have hns : ∀ i, w.heap.size + 3 ≤ i → i < w2.heap.size + 2 → ¬ (i = w.heap.size + 2 ∨ (Value.slice vp pre.length vc).ownBlock = some i) := fun i h3 h4 e => by
          rcases e with e | e
          · omega
          · have := (HS.out.row.lt i e).1
            omega
        have q0 := HN2.out.block w2.heap.size (by omega) (hns _ (by omega) (by omega))
        have q1 := HN2.out.block (w2.heap.size + 1) (by omega) (hns _ (by omega) (by omega))
        have q2 := HN2.out.block w1.heap.size (by omega) (hns _ (by omega) (by omega))
        have q3 := HN2.out.block (w1.heap.size + 1) (by omega) (hns _ (by omega) (by omega))
        refine ⟨⟨q0, q1⟩, ⟨HN2.out.size, q2, q3⟩, .slice (some ⟨g8, 0, none⟩) (pre.length + 1) c8, ?_⟩
        rw [List.length_append]
        exact HN1.out
  · rintro xs W hxs ⟨v, hS⟩ hD
    subst hxs
    rw [List.length_range] at hS
    have HS := Lib.hid hS
    have HD := Lib.hid hD
    obtain ⟨vp, vc, rfl⟩ := owns_slice hS.row
    have c2 := hS.c2
    have c3 := hS.c3
    have c4 := hS.c4
    have f2 := hS.f2
    have f3 := hS.f3
    have hF : ∀ o, Fr (fun i => i = w.heap.size ∨ i = w.heap.size + 1 ∨ i = w2.heap.size) W (((W.setCell ⟨w.heap.size, 0, none⟩ (.slice vp (nCh len) vc)).setCell ⟨w.heap.size + 1, 0, none⟩ (.int .i64 0)).putObj w2.heap.size o) := fun o =>
      Fr.trans (((Fr.refl (fun i => i = w.heap.size ∨ i = w.heap.size + 1 ∨ i = w2.heap.size) W).setCell (p := ⟨w.heap.size, 0, none⟩) (fun _ => .inl rfl) _).setCell (p := ⟨w.heap.size + 1, 0, none⟩) (fun _ => .inr (.inl rfl)) _) (fr_put _ _ o) (fun i hi _ => .inr (.inr hi))
    have HFI : Hid (∀ o, (((W.setCell ⟨w.heap.size, 0, none⟩ (.slice vp (nCh len) vc)).setCell ⟨w.heap.size + 1, 0, none⟩ (.int .i64 0)).putObj w2.heap.size o).cell? ⟨w.heap.size, 0, none⟩ = some (.slice vp (nCh len) vc) ∧ (((W.setCell ⟨w.heap.size, 0, none⟩ (.slice vp (nCh len) vc)).setCell ⟨w.heap.size + 1, 0, none⟩ (.int .i64 0)).putObj w2.heap.size o).cell? ⟨w.heap.size + 1, 0, none⟩ = some (.int .i64 0)) := Lib.hid (fun o => by
      have hn0 : w2.heap.size ≠ w.heap.size := by have := HW2.out; omega
      have hn1 : w2.heap.size ≠ w.heap.size + 1 := by have := HW2.out; omega
      refine ⟨(World.cell?_of_block (a := ⟨w.heap.size, 0, none⟩) (World.putObj_heap_other (fun e => hn0 (by first | exact e | exact e.symm)))).trans (by go_simp), (World.cell?_of_block (a := ⟨w.heap.size + 1, 0, none⟩) (World.putObj_heap_other (fun e => hn1 (by first | exact e | exact e.symm)))).trans (by go_simp)⟩)
    have HCR : Hid (∀ o, ChR w.heap.size zs (.returned (.tuple #[.slice vp (nCh len) vc, .int .i64 0])) (((W.setCell ⟨w.heap.size, 0, none⟩ (.slice vp (nCh len) vc)).setCell ⟨w.heap.size + 1, 0, none⟩ (.int .i64 0)).putObj w2.heap.size o) ∧ Below w.heap.size w (((W.setCell ⟨w.heap.size, 0, none⟩ (.slice vp (nCh len) vc)).setCell ⟨w.heap.size + 1, 0, none⟩ (.int .i64 0)).putObj w2.heap.size o)) := Lib.hid (fun o => by
      have hch : bodies zs (nCh len) = chainOf zs := by unfold chainOf nCh; rw [hbl]
      have hcl : (chainOf zs).length = nCh len := by rw [← hch, bodies_length]
      refine ⟨.inl ⟨fun i hi => HS.out.good i (by unfold nCh; omega) hi, _, rfl, ?_⟩, HS.out.bel.trans ((hF o).below HS.out.bel.size (fun i hi => by have := HW2.out; omega))⟩
      rw [hcl, ← hch]
      exact own_base ((hF o).owns HS.out.row (fun g hg e => by have := (HS.out.row.lt g hg).1; have := HW2.out; omega)) (by have := HW2.out; omega))
    have HK : Hid (((W.setCell ⟨w.heap.size, 0, none⟩ (.slice vp (nCh len) vc)).setCell ⟨w.heap.size + 1, 0, none⟩ (.int .i64 0)).heap[w2.heap.size]? = some (.deferred (some []))) := Lib.hid (by
      have hF1 : Fr (fun i => i = w.heap.size ∨ i = w.heap.size + 1) W ((W.setCell ⟨w.heap.size, 0, none⟩ (.slice vp (nCh len) vc)).setCell ⟨w.heap.size + 1, 0, none⟩ (.int .i64 0)) := ((Fr.refl _ W).setCell (p := ⟨w.heap.size, 0, none⟩) (fun _ => .inl rfl) _).setCell (p := ⟨w.heap.size + 1, 0, none⟩) (fun _ => .inr rfl) _
      exact (hF1.block _ (Array.getElem?_eq_some_iff.1 HD.out).1 (fun e => by have := HW2.out; omega)).trans HD.out)
    clear hS hD hF
    gi_wp2_with fail
    refine ⟨by simp, .inl ⟨_, _, rfl, run_takeDeferred HK.out, ?_⟩⟩
    have x4 := (HFI.out (.deferred none)).1
    have x5 := (HFI.out (.deferred none)).2
    exact ⟨_, results_cells2 rfl _ _ _ ⟨w.heap.size, 0, none⟩ ⟨w.heap.size + 1, 0, none⟩ (.slice vp (nCh len) vc) (.int .i64 0) rfl rfl (by go_simp) (by go_simp), HCR.out _⟩
  · rintro pre W _ hX hD
    have HX := Lib.hid hX
    have HD := Lib.hid hD
    have HFI : Hid (∀ o, ChX w.heap.size w zs (W.putObj w2.heap.size o)) := Lib.hid (fun o => ChX.fr (R := w2.heap.size + 2) hX (fr_put W _ o) (fun i hi => by have := HW2.out; omega) (by have := (Array.getElem?_eq_some_iff.1 hD).1; have := HW2.out; omega))
    clear hX hD
    gi_wp2_with fail
    refine ⟨by simp, .inl ⟨_, _, rfl, run_takeDeferred HD.out, ?_⟩⟩
    have x4 := (HFI.out (.deferred none)).1
    have x5 := (HFI.out (.deferred none)).2.1
    exact ⟨_, results_cells2 rfl _ _ _ ⟨w.heap.size, 0, none⟩ ⟨w.heap.size + 1, 0, none⟩ (.slice none 0 0) (.int .i64 1) rfl rfl (by go_simp) (by go_simp), .inr ⟨(HFI.out (.deferred none)).2.2.2, rfl⟩, (HFI.out _).2.2.1⟩

theorem free_chain (p : Option Addr) (len cap : Nat) (zs : List Int) (w : World) (h : RdI w w.heap.size p len zs) (hl : len ≤ 400) (hcap : len ≤ cap) :
    Calls Tryz.prog 32 #[.slice p len cap] w fun e w' => ChR w.heap.size zs e w' ∧ Below w.heap.size w w' := callsIn_wide.1 (chain_in 9 (by omega) p len cap zs w h hl hcap)
end Go.Proofs.YtedcpckocedcoaaGreat
