/- Merged texts: Iter ConfL HeapC HeapD HeapE HeapI Nums NumsH Pile PileP Sorted ConfM Conf ConfV. -/
import Derived.RangeFuncBox
import Derived.RangeFuncLeaves
import Derived.RangeFuncBound
import Derived.RangeFuncCalls
import Derived.Shelf.Abstract
import Derived.WalkKit
import Derived.OwnWalkIn
import Derived.TacticsInMore
import Derived.LoopNIn
import Derived.LoopIn
import Derived.Maps.AppendAt
import Derived.Test.YtaodldagmmephaaGreatA1
import Derived.Lib.SlicesCompact
import Derived.WalkSpells
import Derived.WalkLawsBesides
import Derived.Deep.LoopGhost
import Derived.Lib.Hide
import Derived.Deep.QuietTactic
import Derived.BigQuiet
import Derived.Deep.RegionLaw
import Derived.BigRegion
import Derived.Deep.AppendLies
import Derived.Test.YtaodldagmmephaaGreatLayS
import Derived.Lib.SlKeysI
import Derived.Shelf.Slices.CompactI
/- slices.Values at pile's numbers, slices.AppendSeq and slices.Collect at ints: what a pile has, collected into a new slice. -/
namespace Go.Proofs.YtaodldagmmephaaGreat
open Go.RowKit Go.Shelf
attribute [local go_sem] Oper.semAt_some

/-- What has come when k rounds are over. -/
def upto (f : Nat → Int) (k : Nat) : List Int := (List.range k).map f
theorem upto_succ (f : Nat → Int) (k : Nat) : upto f (k + 1) = upto f k ++ [f k] := by simp [upto, List.range_succ]
theorem upto_length (f : Nat → Int) (k : Nat) : (upto f k).length = k := by simp [upto]
theorem upto_all (zs : List Int) : upto (fun j => HL.el zs j) zs.length = zs := by
  apply List.ext_getElem
  · simp [upto]
  · intro i h1 h2
    simp [upto, HL.el, h2]
theorem upto_take (zs : List Int) {k : Nat} (hk : k ≤ zs.length) : upto (fun j => HL.el zs j) k = zs.take k := by
  apply List.ext_getElem
  · simp [upto]; omega
  · intro i h1 h2
    have : i < zs.length := by simp [upto] at h1; omega
    simp [upto, HL.el, this]

set_option maxRecDepth 100000 in
set_option maxHeartbeats 2000000 in
/-- The closure of slices.Values: it reads the slice's cells when a round has run; each round keeps what lay below n0. -/
theorem values1_in (n : Nat) (hn : 1 ≤ n) (l Bs n0 len cap : Nat) (p : Option Addr) (zs : List Int) (hbig : len ≤ 1000000) (J Jx : List Int → World → Prop)
    (hY : ∀ pre x W, J pre W → pre.length < len → YieldAt Fence.wide (n - 1) Tryz.prog l #[.int .i64 x] W fun e W' =>
      (e = .returned (.bool true) ∧ J (pre ++ [x]) W' ∧ Below n0 W W') ∨ (e = .returned (.bool false) ∧ Jx (pre ++ [x]) W'))
    (W : World) (hBs : W.cell? ⟨Bs, 0, none⟩ = some (.slice p len cap)) (hR : RdI W n0 p len zs) (h0 : J [] W) :
    CallsIn Fence.wide n Tryz.prog 143 #[.func (.yield l) #[] #[], .pointer (some ⟨Bs, 0, none⟩)] W fun e W' => (∃ v, e = .returned v) ∧
      ((∃ ys, ys = zs ∧ J ys W') ∨ (∃ pre, pre <+: zs ∧ Jx pre W')) := by
  have hz := hR.1
  have HR := Lib.hid hR
  have HZ := Lib.hid hz
  clear hR hz
  refine callsIn_of_wp Tryz.func143 rfl trivial ?_ rfl
  simp only [Tryz.ntmps143, List.size_toArray, List.length_cons, List.length_nil, Nat.reduceAdd, Nat.reduceSub, Array.replicate_succ, Array.replicate_zero, List.push_toArray, List.append_toArray, List.nil_append, List.cons_append]
  gi_wp2
  gi_loopw [7] (fun i wr => ∃ k : Nat, k ≤ len ∧ i = .int .i64 k ∧ J (upto (fun j => HL.el zs j) k) wr ∧ Below n0 W wr)
    (fun i _ => len - (intOf i).toNat)
  case atStart => exact ⟨0, Nat.zero_le _, rfl, h0, Below.refl _ _⟩
  case round =>
    obtain ⟨k, hk, rfl, hJs, hnx⟩ := hrel
    by_cases hlt : k < len
    · obtain ⟨b, o, hp, hb, hc⟩ := HR.out.2 (by omega)
      subst hp
      have hcx := (hnx.cell (p := ⟨b, o + k, none⟩) hb).trans (hc k hlt)
      obtain ⟨fn, tmps, assign, body, hy, hRo⟩ := hY _ (HL.el zs k) wr hJs (by rw [upto_length]; exact hlt)
      gi_wp2
      refine hRo.mono ?_
      rintro e W3 (⟨rfl, hJ3, hk3⟩ | ⟨rfl, hJx3⟩)
      · gi_wp2
        go_roundw
        case rel => exact ⟨k + 1, by omega, by simp, by rw [upto_succ]; exact hJ3, hnx.trans hk3⟩
        case measure => simp [intOf]; omega
      · gi_wp2
        refine bodyPost_ret (results_none rfl _ _ _) rfl ?_
        refine ⟨⟨_, rfl⟩, .inr ⟨_, ?_, hJx3⟩⟩
        rw [← upto_succ, upto_take zs (by have := HZ.out; omega)]
        exact List.take_prefix _ _
    · obtain rfl : k = len := by omega
      gi_wp2
      go_end0
      refine ⟨⟨_, rfl⟩, .inl ⟨_, ?_, hJs⟩⟩
      rw [← HZ.out]
      exact upto_all zs

theorem values_stops (n : Nat) (hn : 1 ≤ n) (Bs n0 len cap : Nat) (p : Option Addr) (zs : List Int) (hbig : len ≤ 1000000) (w : World) (hBs : Bs < w.heap.size) (hn0 : n0 ≤ w.heap.size)
    (hc : w.cell? ⟨Bs, 0, none⟩ = some (.slice p len cap)) (hR : RdI w n0 p len zs) :
    SeqStopsK Fence.wide n Tryz.prog 143 #[.pointer (some ⟨Bs, 0, none⟩)] (fun x : Int => #[Value.int .i64 x]) (Below n0) (fun ys => ys = zs) (fun pre => pre <+: zs) len w :=
  fun l J Jx W hW _ _ hY h0 =>
    values1_in n hn l Bs n0 len cap p zs hbig J Jx hY W ((hW.cell (p := ⟨Bs, 0, none⟩) hBs).trans hc) (hR.below (hW.mono hn0)) h0

set_option maxRecDepth 100000 in
theorem values_call (p : Option Addr) (len cap : Nat) (w : World) :
    Calls Tryz.prog 136 #[.slice p len cap] w fun e w' => e = .returned (.func (.func 143) #[] #[.pointer (some ⟨w.heap.size, 0, none⟩)]) ∧ w' = w.alloc (.cells #[.slice p len cap] 168) := by
  go_enter Tryz.func136, Tryz.ntmps136
  go_wp2
  go_ret
  exact ⟨rfl, rfl⟩

set_option maxRecDepth 100000 in
set_option maxHeartbeats 2000000 in
/-- slices.AppendSeq(nil, slices.Values(h)): a new row that holds just what h holds. -/
theorem append_seq (n : Nat) (hn : 3 ≤ n) (Bs len cap : Nat) (p : Option Addr) (zs : List Int) (hbig : len ≤ 1000000) (w : World) (hBs : Bs < w.heap.size) (hc : w.cell? ⟨Bs, 0, none⟩ = some (.slice p len cap)) (hR : RdI w w.heap.size p len zs) :
    CallsIn Fence.wide n Tryz.prog 145 #[.slice none 0 0, .func (.func 143) #[] #[.pointer (some ⟨Bs, 0, none⟩)]] w fun e w' =>
      ∃ v, e = .returned v ∧ w'.ownsRow w.heap.size 3 1 v zs.length (zs.map (Value.int .i64)) ∧ Below w.heap.size w w' := by
  have h1 : 1 ≤ n := by omega
  have hlen := hR.1
  have HC := Lib.hid hc
  have HR := Lib.hid hR
  clear hc hR
  obtain ⟨i0, hi, hz0, hz1, hz2⟩ := info_parts info_int
  refine callsIn_of_wp_marks Tryz.func145 rfl trivial ?_ rfl
  simp only [Tryz.ntmps145, List.size_toArray, List.length_cons, List.length_nil, Nat.reduceAdd, Nat.reduceSub, Array.replicate_succ, Array.replicate_zero, List.push_toArray, List.append_toArray, List.nil_append, List.cons_append]
  gi_wp2
  have bO := Boxed.new w 32 (.slice none 0 0)
  have hB0 : Below w.heap.size w (w.alloc (.cells #[.slice none 0 0] 32)) := (Below.refl _ w).alloc (Nat.le_refl _) _
  refine wpIn_rangeFunc_ownG rfl h1 (gf := 143) (lb := #[.pointer (some ⟨Bs, 0, none⟩)]) rfl trivial (enters_of Tryz.func143 (by kernel_rfl) rfl)
    (values_stops (n - 1) (by omega) Bs w.heap.size len cap p zs hbig (w.alloc (.cells #[.slice none 0 0] 32)) (by simp; omega) (by simp) ((hB0.cell (p := ⟨Bs, 0, none⟩) hBs).trans HC.out) (HR.out.below hB0)) belowK_t (belowK_b (by simp)) (Below.refl _ _) (fun _ => rfl)
    (fun pre W => (∃ v, Boxed W w.heap.size 32 v ∧ W.ownsRow w.heap.size 3 1 v pre.length (pre.map (Value.int .i64)) ∧ True) ∧ Below w.heap.size w W)
    (fun _ _ _ => False)
    (OwnFrom.and (Own.from (holdsRow_own w.heap.size w.heap.size 32 3 1 (fun pre : List Int => pre.length) (fun pre : List Int => pre.map (Value.int .i64)) (fun _ _ => True)) _) (ownFrom_below (Nat.le_refl _) (by simp)))
    (fun _ _ _ _ _ hs _ _ => hs)
    ⟨⟨_, bO, World.ownsRow_nil _ _ _ _, trivial⟩, hB0⟩
    (fun x => { tmps := #[.slice none 0 0, .func (.func 143) #[] #[.pointer (some ⟨Bs, 0, none⟩)], .pointer (some ⟨w.heap.size, 0, none⟩), undef, .slice none 0 0, .int .i64 x, .func (.func 143) #[] #[.pointer (some ⟨Bs, 0, none⟩)], .int .i64 x, undef, undef, undef, undef, undef], defers := [] }) ?assign ?body ?done ?stop
  case assign =>
    intro l x W K hK
    gi_wp2
    exact hK
  case body =>
    rintro l pre x W ⟨⟨v, hv, hrow, _⟩, hB⟩ hlt
    have hc := hv.cell
    gi_wp2_with (gi_at_builtin; refine wpListIn_append_own _ rfl _ _ 32 rfl w.heap.size 3 i0 (.int .i64 0) 1 8 Tryz.underlying32 hi hz0 hz1 hz2 rfl (by decide) _ _ _ rfl (hrow.alloc _) ⟨W.heap.size, 0, none⟩ 1 1 [.int .i64 x] rfl rfl (cell_one_new _ _ _) (by simp [Value.oneCell']) (by unfold maxLen; omega) (by omega) (by have := hB.size; simp; omega) ?_; intro v' w1 hown' hgrow _; obtain ⟨g', cap', rfl⟩ := ownsRow_succ hown'; obtain ⟨hv1, hv2, hr2, hk2, hb2⟩ := hv.appended (by decide) hrow hB.size (Nat.le_refl _) hown' hgrow; have hc1 := hv1.cell; have hf1 := hv1.frozen)
    exact ⟨hk2.from _, hb2, ⟨_, hv2, by simpa using hr2, trivial⟩, hB.trans hb2⟩
  case done =>
    rintro D ys W hD rfl ⟨⟨v, hv, hrow, _⟩, hB⟩ hK
    have hc := hv.cell
    gi_wp2
    refine ⟨by simp, .inl ⟨_, _, rfl, run_takeDeferred hK, ?_⟩⟩
    exact ⟨_, results_tmp rfl _ _ _, v, rfl, ownsRow_putObj hrow _ hK rfl, hB.trans (belowK_b (w := w) (Nat.le_refl _) W D _ _ (by simp at hD; omega) hK rfl rfl)⟩
  case stop =>
    rintro D c pre W _ _ h _
    exact h.elim

set_option maxRecDepth 100000 in
theorem collect_seq (Bs len cap : Nat) (p : Option Addr) (zs : List Int) (hbig : len ≤ 1000000) (w : World) (hBs : Bs < w.heap.size) (hc : w.cell? ⟨Bs, 0, none⟩ = some (.slice p len cap)) (hR : RdI w w.heap.size p len zs) :
    Calls Tryz.prog 141 #[.func (.func 143) #[] #[.pointer (some ⟨Bs, 0, none⟩)]] w fun e w' =>
      ∃ v, e = .returned v ∧ w'.ownsRow w.heap.size 3 1 v zs.length (zs.map (Value.int .i64)) ∧ Below w.heap.size w w' := by
  have HA := Lib.hid (callsIn_wide.1 (append_seq 3 (by omega) Bs len cap p zs hbig w hBs hc hR))
  clear hc hR
  go_enter Tryz.func141, Tryz.ntmps141
  go_wp2_with fail
  refine HA.out.mono ?_
  rintro e w' ⟨v, rfl, h⟩
  go_wp2
  go_ret
  exact ⟨v, rfl, h⟩
end Go.Proofs.YtaodldagmmephaaGreat

/- Plain facts on sorted lists of numbers, each once: no program in sight. -/
namespace Go.Proofs.YtaodldagmmephaaGreat
namespace CL

/-- Sorted, each once. -/
def Up (l : List Int) : Prop := l.Pairwise (· < ·)

theorem up_nodup {l : List Int} (h : Up l) : l.Nodup := h.imp (fun h => by omega)

theorem up_ext : ∀ {a b : List Int}, Up a → Up b → (∀ x, x ∈ a ↔ x ∈ b) → a = b
  | [], [], _, _, _ => rfl
  | [], y :: b, _, _, h => by have := (h y).2 (by simp); simp at this
  | x :: a, [], _, _, h => by have := (h x).1 (by simp); simp at this
  | x :: a, y :: b, ha, hb, h => by
    have ha' := List.pairwise_cons.1 ha
    have hb' := List.pairwise_cons.1 hb
    have hxy : x = y := by
      rcases List.mem_cons.1 ((h x).1 (by simp)) with e | e
      · exact e
      · rcases List.mem_cons.1 ((h y).2 (by simp)) with e' | e'
        · exact e'.symm
        · have h1 := hb'.1 x e
          have h2 := ha'.1 y e'
          omega
    subst hxy
    congr 1
    refine up_ext ha'.2 hb'.2 (fun z => ?_)
    have hz := h z
    constructor
    · intro hm
      have h1 := ha'.1 z hm
      rcases List.mem_cons.1 (hz.1 (by simp [hm])) with e | e
      · omega
      · exact e
    · intro hm
      have h1 := hb'.1 z hm
      rcases List.mem_cons.1 (hz.2 (by simp [hm])) with e | e
      · omega
      · exact e

/-- What slices.Compact makes of a sorted row. -/
theorem compact_up (d : Array Int) (hs : ∀ i j, i ≤ j → j < d.size → d[i]! ≤ d[j]!) : ∀ m, m ≤ d.size →
    Up (Lib.compactUpTo d m) ∧ (∀ x, x ∈ Lib.compactUpTo d m ↔ ∃ j, j < m ∧ d[j]! = x) ∧ (Lib.compactUpTo d m).length ≤ m
  | 0, _ => ⟨by simp [Lib.compactUpTo, Up], by simp [Lib.compactUpTo], by simp [Lib.compactUpTo]⟩
  | m + 1, hm => by
    obtain ⟨h1, h2, h3⟩ := compact_up d hs m (by omega)
    rw [Lib.compactUpTo_succ]
    by_cases hk : Lib.keeps d m = true
    · rw [if_pos hk]
      refine ⟨?_, ?_, by simp; omega⟩
      · unfold Up
        rw [List.pairwise_append]
        refine ⟨h1, by simp, ?_⟩
        intro a ha b hb
        have hb' : b = d[m]! := by simpa using hb
        subst hb'
        obtain ⟨j, hj, rfl⟩ := (h2 a).1 ha
        have hk' : m = 0 ∨ d[m]! ≠ d[m - 1]! := by simpa [Lib.keeps] using hk
        rcases hk' with h0 | hne
        · omega
        · have e1 := hs j (m - 1) (by omega) (by omega)
          have e2 := hs (m - 1) m (by omega) (by omega)
          omega
      · intro x
        rw [List.mem_append, h2]
        constructor
        · rintro (⟨j, hj, e⟩ | e)
          · exact ⟨j, by omega, e⟩
          · exact ⟨m, by omega, (List.mem_singleton.1 e).symm⟩
        · rintro ⟨j, hj, e⟩
          rcases Nat.lt_or_ge j m with g | g
          · exact .inl ⟨j, g, e⟩
          · obtain rfl : j = m := by omega
            exact .inr (by simp [e])
    · rw [if_neg hk, List.append_nil]
      refine ⟨h1, ?_, by omega⟩
      intro x
      rw [h2]
      have hk' : ¬ (m = 0 ∨ d[m]! ≠ d[m - 1]!) := by simpa [Lib.keeps] using hk
      have hm0 : m ≠ 0 := fun e => hk' (.inl e)
      have hme : d[m]! = d[m - 1]! := Classical.byContradiction fun e => hk' (.inr e)
      constructor
      · rintro ⟨j, hj, e⟩
        exact ⟨j, by omega, e⟩
      · rintro ⟨j, hj, e⟩
        rcases Nat.lt_or_ge j m with g | g
        · exact ⟨j, g, e⟩
        · obtain rfl : j = m := by omega
          exact ⟨j - 1, by omega, by rw [← hme, e]⟩

/-- The sort of numbers. -/
def srt (zs : List Int) : List Int := zs.mergeSort fun x y => decide (x ≤ y)

theorem srt_perm (zs : List Int) : (srt zs).Perm zs := List.mergeSort_perm _ _
theorem srt_length (zs : List Int) : (srt zs).length = zs.length := (srt_perm zs).length_eq
theorem srt_mem {zs : List Int} {x : Int} : x ∈ srt zs ↔ x ∈ zs := (srt_perm zs).mem_iff
theorem srt_sorted (zs : List Int) : (srt zs).Pairwise (· ≤ ·) := by
  have := List.pairwise_mergeSort (le := fun x y : Int => decide (x ≤ y)) (by intro a b c; simp; omega) (by intro a b; simp; omega) zs
  exact this.imp (fun h => by simpa using h)

theorem srt_unique {a b : List Int} (hp : a.Perm b) (ha : a.Pairwise (· ≤ ·)) (hb : b.Pairwise (· ≤ ·)) : a = b :=
  hp.eq_of_pairwise (fun x y _ _ h1 h2 => by omega) ha hb

theorem srt_of_perm {a b : List Int} (hp : a.Perm b) : srt a = srt b :=
  srt_unique ((srt_perm a).trans (hp.trans (srt_perm b).symm)) (srt_sorted a) (srt_sorted b)

/-- Each number once, rising. -/
def nrm (zs : List Int) : List Int := Lib.compact (srt zs)

theorem nrm_all (zs : List Int) : Up (nrm zs) ∧ (∀ x, x ∈ nrm zs ↔ x ∈ zs) ∧ (nrm zs).length ≤ zs.length := by
  have hs : ∀ i j, i ≤ j → j < (srt zs).toArray.size → (srt zs).toArray[i]! ≤ (srt zs).toArray[j]! := by
    intro i j hij hj
    have hj' : j < (srt zs).length := by simpa using hj
    have e1 : (srt zs).toArray[i]! = (srt zs)[i]'(by omega) := by rw [getElem!_pos (srt zs).toArray i (by simp; omega)]; simp
    have e2 : (srt zs).toArray[j]! = (srt zs)[j]'hj' := by rw [getElem!_pos (srt zs).toArray j hj]; simp
    rw [e1, e2]
    rcases Nat.lt_or_ge i j with g | g
    · exact List.pairwise_iff_getElem.1 (srt_sorted zs) i j (by omega) hj' g
    · obtain rfl : i = j := by omega
      exact Int.le_refl _
  obtain ⟨h1, h2, h3⟩ := compact_up (srt zs).toArray hs (srt zs).length (by simp)
  refine ⟨h1, fun x => ?_, by have := srt_length zs; unfold nrm Lib.compact; omega⟩
  unfold nrm Lib.compact
  rw [h2, ← srt_mem (zs := zs), List.mem_iff_getElem]
  constructor
  · rintro ⟨j, hj, e⟩
    refine ⟨j, hj, ?_⟩
    rw [getElem!_pos (srt zs).toArray j (by simpa using hj)] at e
    simpa using e
  · rintro ⟨j, hj, e⟩
    refine ⟨j, hj, ?_⟩
    rw [getElem!_pos (srt zs).toArray j (by simpa using hj)]
    simpa using e

theorem nrm_up (zs : List Int) : Up (nrm zs) := (nrm_all zs).1
theorem nrm_mem {zs : List Int} {x : Int} : x ∈ nrm zs ↔ x ∈ zs := (nrm_all zs).2.1 x
theorem nrm_length (zs : List Int) : (nrm zs).length ≤ zs.length := (nrm_all zs).2.2
theorem nrm_of_up {zs : List Int} (h : Up zs) : nrm zs = zs := up_ext (nrm_up zs) h (fun _ => nrm_mem)
theorem nrm_ext {a b : List Int} (h : ∀ x, x ∈ a ↔ x ∈ b) : nrm a = nrm b := up_ext (nrm_up a) (nrm_up b) (fun x => by rw [nrm_mem, nrm_mem, h])
theorem nrm_pos {zs : List Int} (h : 0 < zs.length) : 0 < (nrm zs).length := by
  obtain ⟨x, hx⟩ := List.exists_mem_of_length_pos h
  exact List.length_pos_of_mem (nrm_mem.2 hx)

/-- How many are enough. -/
def quo (n : Nat) : Nat := if n < 1 then 0 else n / 2 + 1
/-- How many of the one list are in the other. -/
def cnt (a v : List Int) : Nat := (a.filter (fun x => decide (x ∈ v))).length
def won (m v : List Int) : Bool := decide (0 < cnt (nrm m) v) && decide (quo (nrm m).length ≤ cnt (nrm m) v)

theorem cnt_le (a v : List Int) : cnt a v ≤ a.length := List.length_filter_le _ _
theorem cnt_mono {a v v' : List Int} (h : ∀ x, x ∈ v → x ∈ v') : cnt a v ≤ cnt a v' := by
  unfold cnt
  induction a with
  | nil => simp
  | cons x a ih =>
    by_cases h1 : x ∈ v
    · have := h x h1
      simp [h1, this]; omega
    · by_cases h2 : x ∈ v'
      · simp [h1, h2]; omega
      · simp [h1, h2]; omega
theorem cnt_self (a : List Int) : cnt a a = a.length := by
  unfold cnt
  rw [List.filter_eq_self.2 (fun x hx => by simpa using hx)]
theorem cnt_nil (a : List Int) : cnt a [] = 0 := by simp [cnt]
theorem cnt_two {a u v : List Int} (h : ∀ x, x ∈ a → x ∈ u → x ∈ v → False) : cnt a u + cnt a v ≤ a.length := by
  unfold cnt
  induction a with
  | nil => simp
  | cons x a ih =>
    have ih' := ih (fun y hy => h y (by simp [hy]))
    have hx := h x (by simp)
    by_cases h1 : x ∈ u
    · have h2 : x ∉ v := fun e => hx h1 e
      simp [h1, h2]; omega
    · by_cases h2 : x ∈ v
      · simp [h1, h2]; omega
      · simp [h1, h2]; omega
end CL
end Go.Proofs.YtaodldagmmephaaGreat

/- container/heap's up and down over any value of heap.Interface whose Len, Less and Swap meet their contracts: what they leave is a rearrangement, and in order. -/
namespace Go.Proofs.YtaodldagmmephaaGreat
open Go.RowKit

/-- A method is called on an interface value: R holds of what it returns. -/
def InvC (P : Program) (it : Value) (name : String) (args : Array Value) (w : World) (R : Value → World → Prop) : Prop :=
  ∃ f args', (invoke (.fn (.method name) #[]) (#[it] ++ args)).run P w = .ok (.enter f args') w ∧ Calls P f args' w fun e w' => ∃ v, e = .returned v ∧ R v w'

theorem InvC.mono {P : Program} {it : Value} {name : String} {args : Array Value} {w : World} {R R' : Value → World → Prop} (h : InvC P it name args w R) (hR : ∀ v w', R v w' → R' v w') : InvC P it name args w R' := by
  obtain ⟨f, xs, h1, h2⟩ := h
  exact ⟨f, xs, h1, h2.mono fun e w' ⟨v, he, hr⟩ => ⟨v, he, hR v w' hr⟩⟩

theorem wpList_invoke {P : Program} {ops : Array Oper} {rest : List Oper} {o : Oper} {a : Act} {w : World} {Q : Exit → Act → World → Prop} (r : Operand) (name : String) (args : Array Operand) (ts : Array TypeId)
    (ho : o.op = .call { callee := .invoke r name, args := args, argTypes := ts }) (hw : Region.wanted o (yielded ops a.tmps) = true)
    (it : Value) (vs : Array Value) (hit : a.eval r = it) (hvs : args.map a.eval = vs) {R : Value → World → Prop} (hI : InvC P it name vs w R)
    (h : ∀ v w', R v w' → wpList P ops Q rest (a.put o.dst v) w') : wpList P ops Q (o :: rest) a w := by
  refine wpList_step fun K hK => ?_
  rw [if_pos hw]
  obtain ⟨f, xs, h1, h2⟩ := hI
  unfold Oper.wp execOp
  simp only [ho, resolve, Sem.run_bind, Sem.run_pure, Result.andThen_ok, hit, hvs, h1]
  simp only [Oper.upon]
  exact h2.mono fun e w' ⟨v, he, hr⟩ => by subst he; exact hK _ _ (h v w' hr)

section
variable {P : Program} {ops : Array Oper} {rest : List Oper} {a : Act} {w : World} {Q : Exit → Act → World → Prop} {it v1 v2 : Value} {name : String} {R : Value → World → Prop}
  {r x1 x2 : Operand} {ts : Array TypeId} {d : Option Tmp} {ty : TypeId} {pos : String} {af : Array Edge} {g : Option (Nat × Bool)}
theorem wpI0 (hI : InvC P it name #[] w R) (hw : Region.wanted ⟨d, .call { callee := .invoke r name, args := #[], argTypes := ts }, ty, pos, af, g⟩ (yielded ops a.tmps) = true) (hit : a.eval r = it)
    (h : ∀ v w', R v w' → wpList P ops Q rest (a.put d v) w') : wpList P ops Q (⟨d, .call { callee := .invoke r name, args := #[], argTypes := ts }, ty, pos, af, g⟩ :: rest) a w :=
  wpList_invoke r name #[] ts rfl hw it #[] hit (by simp) hI h
theorem wpI1 (hI : InvC P it name #[v1] w R) (hw : Region.wanted ⟨d, .call { callee := .invoke r name, args := #[x1], argTypes := ts }, ty, pos, af, g⟩ (yielded ops a.tmps) = true) (hit : a.eval r = it) (h1 : a.eval x1 = v1)
    (h : ∀ v w', R v w' → wpList P ops Q rest (a.put d v) w') : wpList P ops Q (⟨d, .call { callee := .invoke r name, args := #[x1], argTypes := ts }, ty, pos, af, g⟩ :: rest) a w :=
  wpList_invoke r name #[x1] ts rfl hw it #[v1] hit (by simp [h1]) hI h
theorem wpI2 (hI : InvC P it name #[v1, v2] w R) (hw : Region.wanted ⟨d, .call { callee := .invoke r name, args := #[x1, x2], argTypes := ts }, ty, pos, af, g⟩ (yielded ops a.tmps) = true) (hit : a.eval r = it) (h1 : a.eval x1 = v1) (h2 : a.eval x2 = v2)
    (h : ∀ v w', R v w' → wpList P ops Q rest (a.put d v) w') : wpList P ops Q (⟨d, .call { callee := .invoke r name, args := #[x1, x2], argTypes := ts }, ty, pos, af, g⟩ :: rest) a w :=
  wpList_invoke r name #[x1, x2] ts rfl hw it #[v1, v2] hit (by simp [h1, h2]) hI h
end

/-- A heap.Interface value whose Len, Less and Swap mean a list l, wherever I l holds; F: what else may have changed. -/
structure HeapRep (P : Program) (it : Value) {α : Type} [Inhabited α] (lt : α → α → Bool) (I : List α → World → Prop) (F : World → World → Prop) : Prop where
  refl : ∀ w, F w w
  trans : ∀ w1 w2 w3, F w1 w2 → F w2 w3 → F w1 w3
  ord : HL.Ord lt
  small : ∀ l w, I l w → l.length ≤ 1000000
  len : ∀ l w, I l w → InvC P it "Len" #[] w fun v w' => v = .int .i64 l.length ∧ I l w' ∧ F w w'
  less : ∀ l w, I l w → ∀ i j : Int, 0 ≤ i → i < l.length → 0 ≤ j → j < l.length → InvC P it "Less" #[.int .i64 i, .int .i64 j] w fun v w' => v = .bool (lt (HL.el l i.toNat) (HL.el l j.toNat)) ∧ I l w' ∧ F w w'
  swap : ∀ l w, I l w → ∀ i j : Int, 0 ≤ i → i < l.length → 0 ≤ j → j < l.length → InvC P it "Swap" #[.int .i64 i, .int .i64 j] w fun _ w' => I (HL.swp l i.toNat j.toNat) w' ∧ F w w'

/-- What holds of the list as 'up' goes on. -/
def UpRel {α : Type} [Inhabited α] (lt : α → α → Bool) (I : List α → World → Prop) (F : World → World → Prop) (l0 : List α) (w : World) (n : Nat) (j : Nat) (wr : World) : Prop :=
  ∃ l, I l wr ∧ F w wr ∧ l.Perm l0 ∧ HL.UpInv lt l n j ∧ ∀ k, n ≤ k → HL.el l k = HL.el l0 k

theorem UpRel.step {it : Value} {α : Type} [Inhabited α] {lt : α → α → Bool} {I : List α → World → Prop} {F : World → World → Prop} (H : HeapRep Tryz.prog it lt I F) {l0 l : List α} {w w1 w2 : World} {n j : Nat}
    (hn : n ≤ l0.length) (hj : j < n) (h0 : 0 < j) (hF : F w w1) (hp : l.Perm l0) (hu : HL.UpInv lt l n j) (hk : ∀ k, n ≤ k → HL.el l k = HL.el l0 k)
    (hl : lt (HL.el l j) (HL.el l ((j - 1) / 2)) = true) (hI : I (HL.swp l ((j - 1) / 2) j) w2) (hF' : F w1 w2) : UpRel lt I F l0 w n ((j - 1) / 2) w2 := by
  have hl0 := hp.length_eq
  refine ⟨_, hI, H.trans _ _ _ hF hF', (HL.swp_perm _ _ _ (by omega) (by omega)).trans hp, hu.step H.ord (by omega) hj h0 hl, fun k kn => ?_⟩
  rw [HL.el_swp _ _ _ _ (by omega) (by omega), if_neg (by omega), if_neg (by omega)]
  exact hk k kn

set_option maxHeartbeats 400000 in
theorem heap_up {it : Value} {α : Type} [Inhabited α] {lt : α → α → Bool} {I : List α → World → Prop} {F : World → World → Prop} (H : HeapRep Tryz.prog it lt I F)
    (l0 : List α) (w : World) (h0 : I l0 w) (n : Nat) (hn : n ≤ l0.length) (j : Int) (hj0 : 0 ≤ j) (hj : j < n) (hu : HL.UpInv lt l0 n j.toNat) :
    Calls Tryz.prog 144 #[it, .int .i64 j] w fun e w' => e = .returned (.tuple #[]) ∧ ∃ l, I l w' ∧ F w w' ∧ l.Perm l0 ∧ HL.HeapTo lt 0 l n ∧ ∀ k, n ≤ k → HL.el l k = HL.el l0 k := by
  obtain ⟨j, rfl⟩ := Int.eq_ofNat_of_zero_le hj0
  simp only [Int.toNat_natCast] at hu
  have HS := Lib.hid H; clear H
  have hs0 := HS.out.small _ _ h0
  have hst : UpRel lt I F l0 w n j w := ⟨l0, h0, HS.out.refl _, List.Perm.refl _, hu, fun _ _ => rfl⟩
  have HST := Lib.hid hst; clear hst h0 hu
  have hj1 : j < n := by omega
  clear hj
  go_enter Tryz.func144, Tryz.ntmps144
  go_wp2
  go_loopw [1, 4] (fun jv _ wr => ∃ i : Nat, i < n ∧ jv = .int .i64 i ∧ UpRel lt I F l0 w n i wr) (fun jv _ _ => (intOf jv).toNat)
  case atStart => exact ⟨j, hj1, rfl, HST.out⟩
  case round =>
    clear HST hj1 hj0
    obtain ⟨i, hi, rfl, l, hI, hF, hp, hu, hk⟩ := hrel
    have hl0 : l.length ≤ l0.length := Nat.le_of_eq hp.length_eq
    have hl1 : l0.length ≤ l.length := Nat.le_of_eq hp.length_eq.symm
    have HK := Lib.hid hk; clear hk
    have HU := Lib.hid hu; clear hu
    by_cases hi0 : i = 0
    · subst hi0
      go_wp2
      go_end0
      exact ⟨rfl, l, hI, hF, hp, HU.out.done (.inl rfl), HK.out⟩
    · obtain ⟨m, rfl⟩ : ∃ m, i = m + 1 := ⟨i - 1, by omega⟩
      clear hi0
      have e2 : ((m : Int) / 2 == (m : Int) + 1) = false := by rw [beq_eq_false_iff_ne]; omega
      have hb : (m : Int) ≤ 1000000 := by omega
      have hm2 : ((m : Int) / 2).toNat = (m + 1 - 1) / 2 := by omega
      have hL := HS.out.less l wr hI (m + 1) ((m : Int) / 2) (by omega) (by omega) (by omega) (by omega)
      rw [hm2, show ((m : Int) + 1).toNat = m + 1 by omega] at hL
      have HM2 := Lib.hid hm2; clear hm2
      cases hlt : lt (HL.el l (m + 1)) (HL.el l ((m + 1 - 1) / 2)) with
      | false =>
        rw [hlt] at hL
        have HL' := Lib.hid hL; clear hL
        have HLT := Lib.hid hlt; clear hlt
        go_wp2_with ((with_reducible refine wpI2 HL'.out ?_ ?_ ?_ ?_ ?_); rfl; rfl; rfl; rfl; rintro v w1 ⟨rfl, hI1, hF1⟩)
        go_end0
        exact ⟨rfl, l, hI1, HS.out.trans _ _ _ hF hF1, hp, HU.out.done (.inr HLT.out), HK.out⟩
      | true =>
        rw [hlt] at hL
        have HL' := Lib.hid hL; clear hL
        have HLT := Lib.hid hlt; clear hlt
        have HSW := Lib.hid (fun w1 (h : I l w1) => HS.out.swap l w1 h ((m : Int) / 2) (m + 1) (by omega) (by omega) (by omega) (by omega))
        go_wp2_with (first | ((with_reducible refine wpI2 HL'.out ?_ ?_ ?_ ?_ ?_); rfl; rfl; rfl; rfl; rintro v w1 ⟨rfl, hI1, hF1⟩) | ((with_reducible refine wpI2 (HSW.out _ hI1) ?_ ?_ ?_ ?_ ?_); rfl; rfl; rfl; rfl; rintro v w2 ⟨hI2, hF2⟩))
        rw [HM2.out, show ((m : Int) + 1).toNat = m + 1 by omega] at hI2
        go_roundw
        case rel => exact ⟨(m + 1 - 1) / 2, by omega, by rw [show ((m : Int) / 2) = (((m + 1 - 1) / 2 : Nat) : Int) by omega], UpRel.step HS.out hn hi (by omega) (HS.out.trans _ _ _ hF hF1) hp HU.out HK.out HLT.out hI2 hF2⟩
        case measure => simp [intOf]; omega
end Go.Proofs.YtaodldagmmephaaGreat

/- container/heap's down over any value of heap.Interface whose Len, Less and Swap meet their contracts. -/
namespace Go.Proofs.YtaodldagmmephaaGreat
open Go.RowKit

/-- What holds of the list as 'down' goes on. -/
def DownRel {α : Type} [Inhabited α] (lt : α → α → Bool) (I : List α → World → Prop) (F : World → World → Prop) (l0 : List α) (w : World) (lo n i0 i : Nat) (wr : World) : Prop :=
  ∃ l, I l wr ∧ F w wr ∧ l.Perm l0 ∧ HL.DownInv lt lo i0 l n i ∧ (∀ k, n ≤ k → HL.el l k = HL.el l0 k) ∧ (i = i0 → l = l0)

/-- What 'down' leaves. -/
def DownPost {α : Type} [Inhabited α] (lt : α → α → Bool) (I : List α → World → Prop) (F : World → World → Prop) (l0 : List α) (w : World) (lo n i0 : Nat) (e : Ending) (w' : World) : Prop :=
  ∃ l b, e = .returned (.bool b) ∧ I l w' ∧ F w w' ∧ l.Perm l0 ∧ (∀ k, n ≤ k → HL.el l k = HL.el l0 k) ∧ (b = false → l = l0 ∧ ∀ k, 0 < k → k < n → lo ≤ (k - 1) / 2 → k ≠ i0 → HL.okAt lt l k) ∧ (b = true → HL.HeapTo lt lo l n)

theorem DownRel.step {it : Value} {α : Type} [Inhabited α] {lt : α → α → Bool} {I : List α → World → Prop} {F : World → World → Prop} (H : HeapRep Tryz.prog it lt I F) {l0 l : List α} {w w1 w2 : World} {lo n i0 i c : Nat}
    (hn : n ≤ l0.length) (hi : i0 ≤ i) (hF : F w w1) (hp : l.Perm l0) (hd : HL.DownInv lt lo i0 l n i) (hk : ∀ k, n ≤ k → HL.el l k = HL.el l0 k) (hc : 2 * i + 1 < n) (hcc : HL.kid lt l n i = c)
    (hl : lt (HL.el l c) (HL.el l i) = true) (hI : I (HL.swp l i c) w2) (hF' : F w1 w2) : i0 ≤ c ∧ i < c ∧ c < n ∧ DownRel lt I F l0 w lo n i0 c w2 := by
  have hl0 := hp.length_eq
  have hcn : c < n ∧ i < c := by subst hcc; unfold HL.kid; split <;> omega
  refine ⟨by omega, hcn.2, hcn.1, _, hI, H.trans _ _ _ hF hF', (HL.swp_perm _ _ _ (by omega) (by omega)).trans hp, ?_, fun k kn => ?_, fun e => by omega⟩
  · subst hcc
    exact hd.step H.ord (by omega) hi hc hl
  · rw [HL.el_swp _ _ _ _ (by omega) (by omega), if_neg (by omega), if_neg (by omega)]
    exact hk k kn

theorem DownPost.mk {it : Value} {α : Type} [Inhabited α] {lt : α → α → Bool} {I : List α → World → Prop} {F : World → World → Prop} (H : HeapRep Tryz.prog it lt I F) {l0 l : List α} {w w1 w2 : World} {lo n i0 i : Nat}
    (hi : i0 ≤ i) (hF : F w w1) (hp : l.Perm l0) (hd : HL.DownInv lt lo i0 l n i) (hk : ∀ k, n ≤ k → HL.el l k = HL.el l0 k) (he : i = i0 → l = l0) (hI : I l w2) (hF' : F w1 w2)
    (hc : n ≤ 2 * i + 1 ∨ lt (HL.el l (HL.kid lt l n i)) (HL.el l i) = false) : DownPost lt I F l0 w lo n i0 (.returned (.bool (decide (i0 < i)))) w2 := by
  have hdone := hd.done H.ord hc
  refine ⟨l, _, rfl, hI, H.trans _ _ _ hF hF', hp, hk, fun hb => ?_, fun hb => ?_⟩
  · have : i = i0 := by simp at hb; omega
    exact ⟨he this, fun k k0 kn kl ki => hdone k k0 kn kl (.inl ki)⟩
  · have : i0 < i := by simp at hb; omega
    exact fun k k0 kn kl => hdone k k0 kn kl (.inr this)

set_option maxHeartbeats 1000000 in
theorem heap_down {it : Value} {α : Type} [Inhabited α] {lt : α → α → Bool} {I : List α → World → Prop} {F : World → World → Prop} (H : HeapRep Tryz.prog it lt I F)
    (l0 : List α) (w : World) (h0 : I l0 w) (lo : Nat) (n i0 : Int) (hn0 : 0 ≤ n) (hn : n ≤ l0.length) (hi0 : 0 ≤ i0) (hd : HL.DownInv lt lo i0.toNat l0 n.toNat i0.toNat) (hib : i0 ≤ 1000000) :
    Calls Tryz.prog 140 #[it, .int .i64 i0, .int .i64 n] w (DownPost lt I F l0 w lo n.toNat i0.toNat) := by
  obtain ⟨i0, rfl⟩ := Int.eq_ofNat_of_zero_le hi0
  obtain ⟨n, rfl⟩ := Int.eq_ofNat_of_zero_le hn0
  simp only [Int.toNat_natCast] at hd ⊢
  have HS := Lib.hid H; clear H
  have hs0 := HS.out.small _ _ h0
  have hst : DownRel lt I F l0 w lo n i0 i0 w := ⟨l0, h0, HS.out.refl _, List.Perm.refl _, hd, fun _ _ => rfl, fun _ => rfl⟩
  have HST := Lib.hid hst; clear hst h0 hd
  have hn1 : n ≤ l0.length := by omega
  clear hn
  go_enter Tryz.func140, Tryz.ntmps140
  go_wp2
  go_loopw [7, 8, 9, 10] (fun iv _ _ _ wr => ∃ i : Nat, i0 ≤ i ∧ (i = i0 ∨ i < n) ∧ iv = .int .i64 i ∧ DownRel lt I F l0 w lo n i0 i wr) (fun iv _ _ _ _ => n - (intOf iv).toNat)
  case atStart => exact ⟨i0, Nat.le_refl _, .inl rfl, rfl, HST.out⟩
  case round =>
    clear HST hi0 hn0
    obtain ⟨i, hi, hin, rfl, l, hI, hF, hp, hd, hk, he⟩ := hrel
    have hl0 : l.length ≤ l0.length := Nat.le_of_eq hp.length_eq
    have hl1 : l0.length ≤ l.length := Nat.le_of_eq hp.length_eq.symm
    have HK := Lib.hid hk; clear hk
    have HD := Lib.hid hd; clear hd
    have HE := Lib.hid he; clear he
    have hib2 : i ≤ 1000000 := by omega
    by_cases hc : 2 * i + 1 < n
    · have hin' : i < n := by omega
      clear hin
      have HL1 := Lib.hid (fun (h2 : 2 * i + 2 < n) => HS.out.less l wr hI (2 * (i : Int) + 1 + 1) (2 * (i : Int) + 1) (by omega) (by omega) (by omega) (by omega))
      have HL2 := Lib.hid (fun w1 (h : I l w1) (c : Int) (hc0 : 0 ≤ c) (hcn : c < n) => HS.out.less l w1 h c i (by omega) (by omega) (by omega) (by omega))
      have HSW := Lib.hid (fun w1 (h : I l w1) (c : Int) (hc0 : 0 ≤ c) (hcn : c < n) => HS.out.swap l w1 h i c (by omega) (by omega) (by omega) (by omega))
      have e1 : (2 * (i : Int) + 1 + 1).toNat = 2 * i + 2 := by omega
      have e2 : (2 * (i : Int) + 1).toNat = 2 * i + 1 := by omega
      have E1 := Lib.hid e1; have E2 := Lib.hid e2; clear e1 e2
      by_cases h2 : 2 * i + 2 < n
      · have hL := HL1.out h2
        clear HL1
        rw [E1.out, E2.out] at hL
        cases h1 : lt (HL.el l (2 * i + 2)) (HL.el l (2 * i + 1)) with
        | true =>
          rw [h1] at hL
          have HL1 := Lib.hid hL; clear hL
          have HC := Lib.hid (show HL.kid lt l n i = 2 * i + 2 by unfold HL.kid; rw [if_pos ⟨h2, h1⟩])
          clear h1
          have HLB := Lib.hid (fun w1 (h : I l w1) => HL2.out w1 h (2 * (i : Int) + 1 + 1) (by omega) (by omega))
          have HSB := Lib.hid (fun w1 (h : I l w1) => HSW.out w1 h (2 * (i : Int) + 1 + 1) (by omega) (by omega))
          clear HL2 HSW
          rw [E1.out, Int.toNat_natCast] at HLB HSB
          cases h3 : lt (HL.el l (2 * i + 2)) (HL.el l i) with
          | false =>
            rw [h3] at HLB
            have H3 := Lib.hid h3; clear h3
            go_wp2_with (first | ((with_reducible refine wpI2 HL1.out ?_ ?_ ?_ ?_ ?_); rfl; rfl; rfl; rfl; rintro v w1 ⟨rfl, hI1, hF1⟩) | ((with_reducible refine wpI2 (HLB.out _ hI1) ?_ ?_ ?_ ?_ ?_); rfl; rfl; rfl; rfl; rintro v w2 ⟨rfl, hI2, hF2⟩))
            go_ret
            exact DownPost.mk HS.out hi hF hp HD.out HK.out HE.out hI2 (HS.out.trans _ _ _ hF1 hF2) (.inr (by rw [HC.out]; exact H3.out))
          | true =>
            rw [h3] at HLB
            have H3 := Lib.hid h3; clear h3
            go_wp2_with (first | ((with_reducible refine wpI2 HL1.out ?_ ?_ ?_ ?_ ?_); rfl; rfl; rfl; rfl; rintro v w1 ⟨rfl, hI1, hF1⟩) | ((with_reducible refine wpI2 (HLB.out _ hI1) ?_ ?_ ?_ ?_ ?_); rfl; rfl; rfl; rfl; rintro v w2 ⟨rfl, hI2, hF2⟩) | ((with_reducible refine wpI2 (HSB.out _ hI2) ?_ ?_ ?_ ?_ ?_); rfl; rfl; rfl; rfl; rintro v w3 ⟨hI3, hF3⟩))
            obtain ⟨q1, q2, q3, q4⟩ := DownRel.step HS.out hn1 hi (HS.out.trans _ _ _ hF (HS.out.trans _ _ _ hF1 hF2)) hp HD.out HK.out hc HC.out H3.out hI3 hF3
            go_roundw
            case rel => exact ⟨2 * i + 2, q1, .inr q3, by go_num, q4⟩
            case measure => simp [intOf]; omega
        | false =>
          rw [h1] at hL
          have HL1 := Lib.hid hL; clear hL
          have HC := Lib.hid (show HL.kid lt l n i = 2 * i + 1 by unfold HL.kid; rw [if_neg (fun h => by rw [h1] at h; cases h.2)])
          clear h1
          have HLB := Lib.hid (fun w1 (h : I l w1) => HL2.out w1 h (2 * (i : Int) + 1) (by omega) (by omega))
          have HSB := Lib.hid (fun w1 (h : I l w1) => HSW.out w1 h (2 * (i : Int) + 1) (by omega) (by omega))
          clear HL2 HSW
          rw [E2.out, Int.toNat_natCast] at HLB HSB
          cases h3 : lt (HL.el l (2 * i + 1)) (HL.el l i) with
          | false =>
            rw [h3] at HLB
            have H3 := Lib.hid h3; clear h3
            go_wp2_with (first | ((with_reducible refine wpI2 HL1.out ?_ ?_ ?_ ?_ ?_); rfl; rfl; rfl; rfl; rintro v w1 ⟨rfl, hI1, hF1⟩) | ((with_reducible refine wpI2 (HLB.out _ hI1) ?_ ?_ ?_ ?_ ?_); rfl; rfl; rfl; rfl; rintro v w2 ⟨rfl, hI2, hF2⟩))
            go_ret
            exact DownPost.mk HS.out hi hF hp HD.out HK.out HE.out hI2 (HS.out.trans _ _ _ hF1 hF2) (.inr (by rw [HC.out]; exact H3.out))
          | true =>
            rw [h3] at HLB
            have H3 := Lib.hid h3; clear h3
            go_wp2_with (first | ((with_reducible refine wpI2 HL1.out ?_ ?_ ?_ ?_ ?_); rfl; rfl; rfl; rfl; rintro v w1 ⟨rfl, hI1, hF1⟩) | ((with_reducible refine wpI2 (HLB.out _ hI1) ?_ ?_ ?_ ?_ ?_); rfl; rfl; rfl; rfl; rintro v w2 ⟨rfl, hI2, hF2⟩) | ((with_reducible refine wpI2 (HSB.out _ hI2) ?_ ?_ ?_ ?_ ?_); rfl; rfl; rfl; rfl; rintro v w3 ⟨hI3, hF3⟩))
            obtain ⟨q1, q2, q3, q4⟩ := DownRel.step HS.out hn1 hi (HS.out.trans _ _ _ hF (HS.out.trans _ _ _ hF1 hF2)) hp HD.out HK.out hc HC.out H3.out hI3 hF3
            go_roundw
            case rel => exact ⟨2 * i + 1, q1, .inr q3, by go_num, q4⟩
            case measure => simp [intOf]; omega
      · have HC := Lib.hid (show HL.kid lt l n i = 2 * i + 1 by unfold HL.kid; rw [if_neg (fun h => h2 h.1)])
        clear HL1
        have HLB := Lib.hid (fun w1 (h : I l w1) => HL2.out w1 h (2 * (i : Int) + 1) (by omega) (by omega))
        have HSB := Lib.hid (fun w1 (h : I l w1) => HSW.out w1 h (2 * (i : Int) + 1) (by omega) (by omega))
        clear HL2 HSW
        rw [E2.out, Int.toNat_natCast] at HLB HSB
        cases h3 : lt (HL.el l (2 * i + 1)) (HL.el l i) with
        | false =>
          rw [h3] at HLB
          have H3 := Lib.hid h3; clear h3
          go_wp2_with (first | ((with_reducible refine wpI2 (HLB.out _ hI) ?_ ?_ ?_ ?_ ?_); rfl; rfl; rfl; rfl; rintro v w2 ⟨rfl, hI2, hF2⟩))
          go_ret
          exact DownPost.mk HS.out hi hF hp HD.out HK.out HE.out hI2 hF2 (.inr (by rw [HC.out]; exact H3.out))
        | true =>
          rw [h3] at HLB
          have H3 := Lib.hid h3; clear h3
          go_wp2_with (first | ((with_reducible refine wpI2 (HLB.out _ hI) ?_ ?_ ?_ ?_ ?_); rfl; rfl; rfl; rfl; rintro v w2 ⟨rfl, hI2, hF2⟩) | ((with_reducible refine wpI2 (HSB.out _ hI2) ?_ ?_ ?_ ?_ ?_); rfl; rfl; rfl; rfl; rintro v w3 ⟨hI3, hF3⟩))
          obtain ⟨q1, q2, q3, q4⟩ := DownRel.step HS.out hn1 hi (HS.out.trans _ _ _ hF hF2) hp HD.out HK.out hc HC.out H3.out hI3 hF3
          go_roundw
          case rel => exact ⟨2 * i + 1, q1, .inr q3, by go_num, q4⟩
          case measure => simp [intOf]; omega
    · go_wp2
      go_ret
      exact DownPost.mk HS.out hi hF hp HD.out HK.out HE.out hI (HS.out.refl _) (.inl (by omega))
end Go.Proofs.YtaodldagmmephaaGreat

/- container/heap's Push and Pop over any value of heap.Interface whose methods meet their contracts. -/
namespace Go.Proofs.YtaodldagmmephaaGreat
open Go.RowKit

set_option maxHeartbeats 400000 in
theorem heap_push {α : Type} [Inhabited α] {lt : α → α → Bool} {it xv : Value} {w : World} {K : World → Prop}
    (hP : InvC Tryz.prog it "Push" #[xv] w fun _ w1 => ∃ I F l x, HeapRep Tryz.prog it lt I F ∧ I (l ++ [x]) w1 ∧ HL.IsHeap lt l ∧ ∀ l' w2, I l' w2 → F w1 w2 → l'.Perm (l ++ [x]) → HL.IsHeap lt l' → K w2) :
    Calls Tryz.prog 139 #[it, xv] w fun e w' => e = .returned (.tuple #[]) ∧ K w' := by
  have HP := Lib.hid hP; clear hP
  go_enter Tryz.func139, Tryz.ntmps139
  go_wp2_with (first
    | ((with_reducible refine wpI1 HP.out ?_ ?_ ?_ ?_); rfl; rfl; rfl; rintro v w1 ⟨I, F, l, x, H, hI, hh, hK⟩; have HH := Lib.hid H; clear H; have HK := Lib.hid hK; clear hK; have HLen := Lib.hid (HH.out.len _ _ hI); have hsm := HH.out.small _ _ hI; have HU := Lib.hid (HL.upInv_push x hh); rw [List.length_append, List.length_singleton] at HLen hsm; clear HP)
    | ((with_reducible refine wpI0 HLen.out ?_ ?_ ?_); rfl; rfl; rintro v w2 ⟨rfl, hI2, hF2⟩)
    | (go_at_call 144; (with_reducible refine (heap_up HH.out _ _ hI2 (l.length + 1) ?_ _ ?_ ?_ ?_).mono ?_); simp; omega; omega; rw [Int.toNat_natCast]; exact HU.out; rintro e w3 ⟨rfl, l', hI3, hF3, hp, hh3, hk3⟩))
  go_end0
  exact ⟨rfl, HK.out _ _ hI3 (HH.out.trans _ _ _ hF2 hF3) hp (by unfold HL.IsHeap; rw [hp.length_eq]; simpa using hh3)⟩

theorem pop_end {α : Type} [Inhabited α] {lt : α → α → Bool} {l0 l' : List α} {n i : Nat} (hl : l0.length = n + 1) (hi : i < n + 1) (hp : l'.Perm (HL.swp l0 i n)) (hh : HL.HeapTo lt 0 l' n)
    (hk : HL.el l' n = HL.el (HL.swp l0 i n) n) : l' = l'.take n ++ [HL.el l0 i] ∧ (HL.el l0 i :: l'.take n).Perm l0 ∧ HL.IsHeap lt (l'.take n) := by
  have hlen : l'.length = n + 1 := by rw [hp.length_eq, HL.swp_length, hl]
  have e : HL.el l' n = HL.el l0 i := by rw [hk, HL.el_swp _ _ _ _ (by omega) (by omega), if_pos rfl]
  have e1 := HL.split_last hlen
  rw [e] at e1
  refine ⟨e1, ?_, HL.isHeap_take (by omega) hh⟩
  have p1 : (HL.el l0 i :: l'.take n).Perm (l'.take n ++ [HL.el l0 i]) := (List.perm_append_singleton _ _).symm
  exact p1.trans ((List.Perm.of_eq e1.symm).trans (hp.trans (HL.swp_perm _ _ _ (by omega) (by omega))))


end Go.Proofs.YtaodldagmmephaaGreat

/- container/heap's Init over any value of heap.Interface whose methods meet their contracts. -/
namespace Go.Proofs.YtaodldagmmephaaGreat
open Go.RowKit

/-- What holds as Init goes on: all parents from i on are in order. -/
def InitRel {α : Type} [Inhabited α] (lt : α → α → Bool) (I : List α → World → Prop) (F : World → World → Prop) (l0 : List α) (w : World) (i : Nat) (wr : World) : Prop :=
  ∃ l, I l wr ∧ F w wr ∧ l.Perm l0 ∧ HL.HeapTo lt i l l0.length

set_option maxHeartbeats 400000 in
theorem heap_init {α : Type} [Inhabited α] {lt : α → α → Bool} {it : Value} {I : List α → World → Prop} {F : World → World → Prop} (H : HeapRep Tryz.prog it lt I F) {w : World} (l0 : List α) (h0 : I l0 w) :
    Calls Tryz.prog 134 #[it] w fun e w' => e = .returned (.tuple #[]) ∧ ∃ l, I l w' ∧ F w w' ∧ l.Perm l0 ∧ HL.IsHeap lt l := by
  have HH := Lib.hid H; clear H
  have hsm := HH.out.small _ _ h0
  have HLen := Lib.hid (HH.out.len _ _ h0)
  go_enter Tryz.func134, Tryz.ntmps134
  go_wp2_with ((with_reducible refine wpI0 HLen.out ?_ ?_ ?_); rfl; rfl; rintro v w1 ⟨rfl, hI1, hF1⟩; clear HLen)
  go_loopw [3] (fun iv wr => ∃ i : Nat, i ≤ l0.length / 2 ∧ iv = .int .i64 ((i : Int) - 1) ∧ InitRel lt I F l0 w i wr) (fun iv _ => (intOf iv + 1).toNat)
  case atStart => exact ⟨l0.length / 2, Nat.le_refl _, by go_num, l0, hI1, hF1, List.Perm.refl _, HL.heapTo_half _ _⟩
  case round =>
    obtain ⟨i, hi, rfl, l, hI, hF, hp, hh⟩ := hrel
    have hl0 : l.length ≤ l0.length := Nat.le_of_eq hp.length_eq
    have hl1 : l0.length ≤ l.length := Nat.le_of_eq hp.length_eq.symm
    have HHT := Lib.hid hh; clear hh
    by_cases hi0 : i = 0
    · subst hi0
      go_wp2
      go_end0
      exact ⟨rfl, l, hI, hF, hp, by unfold HL.IsHeap; rw [hp.length_eq]; exact HHT.out⟩
    · obtain ⟨k, rfl⟩ : ∃ k, i = k + 1 := ⟨i - 1, by omega⟩
      go_wp2_with (go_at_call 140; (with_reducible refine (heap_down HH.out _ _ hI k _ _ ?_ ?_ ?_ ?_ ?_).mono ?_); omega; omega; omega; simp only [Int.toNat_natCast]; exact HL.downInv_init HHT.out; omega; simp only [Int.toNat_natCast]; rintro e w3 ⟨l', b, rfl, hI3, hF3, hp3, hk, hb0, hb1⟩; have HB := Lib.hid (And.intro hb0 hb1); clear hb0 hb1; have HK := Lib.hid hk; clear hk)
      go_roundw
      case rel => exact ⟨k, by omega, by go_num, l', hI3, HH.out.trans _ _ _ hF hF3, hp3.trans hp, by
        cases b with
        | false => exact HL.heapTo_of_post (HB.out.1 rfl).2
        | true => exact HB.out.2 rfl⟩
      case measure => simp [intOf]

end Go.Proofs.YtaodldagmmephaaGreat

/- pile's numbers as a heap.Interface: the contracts of its methods. -/
namespace Go.Proofs.YtaodldagmmephaaGreat
open Go.RowKit

theorem len_nums (p : Option Addr) (n c : Nat) (w : World) :
    Calls Tryz.prog 184 #[.slice p n c] w fun e w' => e = .returned (.int .i64 n) ∧ w = w' := by
  go_enter Tryz.func184, Tryz.ntmps184
  go_wp2
  go_ret
  exact ⟨rfl, rfl⟩

set_option maxHeartbeats 400000 in
set_option maxRecDepth 100000 in
theorem less_nums (g n cap i j : Nat) (x y : Int) (w : World) (hi : i < n) (hj : j < n) (hx : w.cell? ⟨g, i, none⟩ = some (.int .i64 x)) (hy : w.cell? ⟨g, j, none⟩ = some (.int .i64 y)) :
    Calls Tryz.prog 185 #[.slice (some ⟨g, 0, none⟩) n cap, .int .i64 i, .int .i64 j] w fun e w' => e = .returned (.bool (decide (x < y))) ∧ ∃ m, w' = w.drewN m := by
  go_enter Tryz.func185, Tryz.ntmps185
  go_wp2
  go_quiet (fail)
  go_wp2
  go_ret
  exact ⟨rfl, _, rfl⟩

set_option maxHeartbeats 400000 in
set_option maxRecDepth 100000 in
theorem swap_nums (g n cap i j : Nat) (x y : Int) (w : World) (hi : i < n) (hj : j < n) (hij : ¬ i = j) (hx : w.cell? ⟨g, i, none⟩ = some (.int .i64 x)) (hy : w.cell? ⟨g, j, none⟩ = some (.int .i64 y)) (hf : ∀ k, w.frozen? ⟨g, k, none⟩ = false) :
    Calls Tryz.prog 186 #[.slice (some ⟨g, 0, none⟩) n cap, .int .i64 i, .int .i64 j] w fun e w' => e = .returned (.tuple #[]) ∧ w' = ((w.setCell ⟨g, i, none⟩ (.int .i64 y)).setCell ⟨g, j, none⟩ (.int .i64 x)).drew := by
  go_enter Tryz.func186, Tryz.ntmps186
  go_wp2
  go_region
  go_end0
  exact ⟨rfl, rfl⟩

set_option maxHeartbeats 400000 in
set_option maxRecDepth 100000 in
theorem swap_nums_same (g n cap i : Nat) (x : Int) (w : World) (hi : i < n) (hx : w.cell? ⟨g, i, none⟩ = some (.int .i64 x)) (hf : ∀ k, w.frozen? ⟨g, k, none⟩ = false) :
    Calls Tryz.prog 186 #[.slice (some ⟨g, 0, none⟩) n cap, .int .i64 i, .int .i64 i] w fun e w' => e = .returned (.tuple #[]) ∧ w' = ((w.setCell ⟨g, i, none⟩ (.int .i64 x)).setCell ⟨g, i, none⟩ (.int .i64 x)).drew := by
  go_enter Tryz.func186, Tryz.ntmps186
  go_wp2
  go_region
  go_end0
  exact ⟨rfl, rfl⟩

theorem ta_int (v : Value) (w : World) : (Instr.typeAssert (.iface 3 v) 20 3 false).run Tryz.prog w = .ok v w := by kernel_rfl

set_option maxHeartbeats 400000 in
set_option maxRecDepth 100000 in
theorem push_nums (ab ao : Nat) (v : Value) (base n : Nat) (xs : List Value) (x : Int) (w : World) (hc : w.cell? ⟨ab, ao, none⟩ = some v) (hf : w.frozen? ⟨ab, ao, none⟩ = false)
    (ho : w.ownsRow base 3 1 v n xs) (hne : v.ownBlock ≠ some ab) (hn : n ≤ 1000000) (hb : base ≤ w.heap.size) :
    Calls Tryz.prog 187 #[.pointer (some ⟨ab, ao, none⟩), .iface 3 (.int .i64 x)] w fun e w' => e = .returned (.tuple #[]) ∧
      ∃ g cap, w'.cell? ⟨ab, ao, none⟩ = some (.slice (some ⟨g, 0, none⟩) (n + 1) cap) ∧ w'.frozen? ⟨ab, ao, none⟩ = false ∧ w'.ownsRow base 3 1 (.slice (some ⟨g, 0, none⟩) (n + 1) cap) (n + 1) (xs ++ [.int .i64 x]) ∧
        Fr (fun k => k = ab ∨ v.ownBlock = some k) w w' ∧ Lies v g w.heap.size ∧ g ≠ ab ∧ Others ab ao w w' := by
  obtain ⟨i0, hi0, hz0, hz1, hz2⟩ := info_parts info_int
  have hlt := cell_lt hc
  obtain ⟨p, c, rfl⟩ := owns_slice ho
  have HO := Lib.hid ho; clear ho
  have HN := Lib.hid hne; clear hne
  have hta := ta_int
  go_enter Tryz.func187, Tryz.ntmps187
  go_wp2
  go_region_law (refine step_append_lies _ rfl _ _ 168 rfl base 3 i0 _ 1 8 Tryz.underlying168 hi0 hz0 hz1 hz2 rfl (by omega) (.slice p n c) n xs rfl (HO.out.drew.alloc _) ⟨w.heap.size, 0, none⟩ 1 1 [.int .i64 x] rfl rfl (new_cells w.drew _ _) (by simp [Value.oneCell']) (by omega) (by unfold maxLen; omega) (by omega) (by simp; omega) (w.heap.size + 1) (by simp) ?_; intro g cap w1 hown hgr hat hg; have HOWN := Lib.hid hown; clear hown; have hpf := push_facts hlt HN.out hgr; have HFR := Lib.hid hpf; have hc1 := (World.cell?_of_block (a := ⟨ab, ao, none⟩) hpf.1).trans hc; have hf1 := (World.frozen?_of_block (a := ⟨ab, ao, none⟩) hpf.1).trans hf; have HAT := Lib.hid hat; clear hpf hat hgr)
  all_goals
    go_end0
    exact ⟨rfl, g, cap, push_end hlt HN.out HFR.out HOWN.out HAT.out (by omega) hc1 hf1⟩

end Go.Proofs.YtaodldagmmephaaGreat

/- pile's numbers are a heap.Interface in the sense of HeapRep. -/
namespace Go.Proofs.YtaodldagmmephaaGreat
open Go.RowKit

def nlt (x y : Int) : Bool := decide (x < y)

theorem nlt_ord : HL.Ord nlt where
  asymm := fun a b h => by unfold nlt at *; simp only [decide_eq_true_eq, decide_eq_false_iff_not] at *; omega
  trans := fun a b c h1 h2 => by unfold nlt at *; simp only [decide_eq_false_iff_not] at *; omega

theorem inv_nums_len (a : Addr) (v : Value) (w : World) (h : w.cell? a = some v) :
    (invoke (.fn (.method "Len") #[]) #[.iface 172 (.pointer (some a))]).run Tryz.prog w = .ok (.enter 184 #[v]) w := by
  have e : (invoke (.fn (.method "Len") #[]) #[.iface 172 (.pointer (some a))]).run Tryz.prog w = (match w.cell? a with
      | some v => .ok (.enter 184 #[v]) w
      | none => match w.farLoad Tryz.prog a false with
        | .ok (v, _) => .ok (.enter 184 #[v]) w
        | .error h => .halt h w) := by kernel_rfl
  rw [e, h]

theorem inv_nums_two (name : String) (f : FuncId) (i j : Int) (a : Addr) (v : Value) (w : World) (hn : (name = "Less" ∧ f = 185) ∨ (name = "Swap" ∧ f = 186)) (h : w.cell? a = some v) :
    (invoke (.fn (.method name) #[]) (#[.iface 172 (.pointer (some a))] ++ #[.int .i64 i, .int .i64 j])).run Tryz.prog w = .ok (.enter f #[v, .int .i64 i, .int .i64 j]) w := by
  rcases hn with ⟨rfl, rfl⟩ | ⟨rfl, rfl⟩
  · have e : (invoke (.fn (.method "Less") #[]) (#[.iface 172 (.pointer (some a))] ++ #[.int .i64 i, .int .i64 j])).run Tryz.prog w = (match w.cell? a with
        | some v => .ok (.enter 185 #[v, .int .i64 i, .int .i64 j]) w
        | none => match w.farLoad Tryz.prog a false with
          | .ok (v, _) => .ok (.enter 185 #[v, .int .i64 i, .int .i64 j]) w
          | .error h => .halt h w) := by kernel_rfl
    rw [e, h]
  · have e : (invoke (.fn (.method "Swap") #[]) (#[.iface 172 (.pointer (some a))] ++ #[.int .i64 i, .int .i64 j])).run Tryz.prog w = (match w.cell? a with
        | some v => .ok (.enter 186 #[v, .int .i64 i, .int .i64 j]) w
        | none => match w.farLoad Tryz.prog a false with
          | .ok (v, _) => .ok (.enter 186 #[v, .int .i64 i, .int .i64 j]) w
          | .error h => .halt h w) := by kernel_rfl
    rw [e, h]

theorem inv_nums_push (a : Addr) (x : Value) (w : World) :
    (invoke (.fn (.method "Push") #[]) (#[.iface 172 (.pointer (some a))] ++ #[x])).run Tryz.prog w = .ok (.enter 187 #[.pointer (some a), x]) w := by kernel_rfl

/-- The slot ⟨ab, ao⟩ holds the slice v, whose row is the list l. -/
def NumsI (ab ao base : Nat) (v : Value) (l : List Int) (w : World) : Prop :=
  w.cell? ⟨ab, ao, none⟩ = some v ∧ w.frozen? ⟨ab, ao, none⟩ = false ∧ w.ownsRow base 3 1 v l.length (rowOf ncells l) ∧ v.ownBlock ≠ some ab ∧ l.length ≤ 1000000 ∧ base ≤ w.heap.size

def OwnN (v : Value) (w w' : World) : Prop := Fr (fun k => v.ownBlock = some k) w w'

theorem NumsI.cells {ab ao base g n cap : Nat} {l : List Int} {w : World} (h : NumsI ab ao base (.slice (some ⟨g, 0, none⟩) n cap) l w) (hn : n = l.length) (k : Nat) (hk : k < l.length) :
    w.cell? ⟨g, k, none⟩ = some (.int .i64 (HL.el l k)) := by
  subst hn
  have ho := h.2.2.1
  have r0 := rowOf_at ncells ncells_length l k 0 hk (by omega)
  rw [Nat.mul_one, Nat.add_zero] at r0
  rw [ho.cellAt k (by omega)]
  exact r0

theorem NumsI.keep {ab ao base : Nat} {v : Value} {l : List Int} {w w' : World} (h : NumsI ab ao base v l w) {S : Nat → Prop} (hf : Fr S w w') (h1 : ¬ S ab) (h2 : ∀ g, v.ownBlock = some g → ¬ S g) : NumsI ab ao base v l w' := by
  obtain ⟨a, b, c, d, e, f⟩ := h
  have hlt := cell_lt a
  exact ⟨(hf.cell hlt h1).trans a, (hf.frozen hlt h1).trans b, hf.owns c h2, d, e, Nat.le_trans f hf.size⟩

theorem NumsI.set {ab ao base g n cap : Nat} {l : List Int} {w : World} (h : NumsI ab ao base (.slice (some ⟨g, 0, none⟩) n cap) l w) (k : Nat) (hk : k < l.length) (x : Int) :
    NumsI ab ao base (.slice (some ⟨g, 0, none⟩) n cap) (l.set k x) (w.setCell ⟨g, k, none⟩ (.int .i64 x)) ∧ OwnN (.slice (some ⟨g, 0, none⟩) n cap) w (w.setCell ⟨g, k, none⟩ (.int .i64 x)) := by
  obtain ⟨a, b, c, d, e, f⟩ := h
  have hn : n = l.length := by
    obtain ⟨p, cp, hv⟩ := owns_slice c
    injection hv
  subst hn
  have s1 := c.stored k (.int .i64 x)
  have hF : OwnN (.slice (some ⟨g, 0, none⟩) l.length cap) w (w.setCell ⟨g, k, none⟩ (.int .i64 x)) :=
    (Fr.refl (fun i => Value.ownBlock (.slice (some ⟨g, 0, none⟩) l.length cap) = some i) w).setCell (p := ⟨g, k, none⟩) (fun _ => rfl) _
  have hlt := cell_lt a
  have hns : ¬ (Value.ownBlock (.slice (some ⟨g, 0, none⟩) l.length cap) = some ab) := d
  refine ⟨⟨(hF.cell hlt hns).trans a, (hF.frozen hlt hns).trans b, ?_, d, by rw [List.length_set]; exact e, Nat.le_trans f hF.size⟩, hF⟩
  rw [List.length_set, ← rowOf_set1 ncells ncells_length l k x _ rfl hk]
  exact s1.1

theorem NumsI.drew {ab ao base : Nat} {v : Value} {l : List Int} {w : World} (h : NumsI ab ao base v l w) : NumsI ab ao base v l w.drew := h
theorem NumsI.drewN {ab ao base : Nat} {v : Value} {l : List Int} {w : World} (h : NumsI ab ao base v l w) (m : Nat) : NumsI ab ao base v l (w.drewN m) := h

theorem nums_rep (ab ao base : Nat) (v : Value) : HeapRep Tryz.prog (.iface 172 (.pointer (some ⟨ab, ao, none⟩))) nlt (NumsI ab ao base v) (OwnN v) where
  refl := fun w => Fr.refl _ w
  trans := fun w1 w2 w3 h k => Fr.trans h k (fun i hi _ => hi)
  ord := nlt_ord
  small := fun l w h => h.2.2.2.2.1
  len := fun l w h => by
    obtain ⟨p, c, hv⟩ := owns_slice h.2.2.1
    refine ⟨_, _, inv_nums_len ⟨ab, ao, none⟩ v w h.1, ?_⟩
    rw [hv]
    refine (len_nums p l.length c w).mono ?_
    rintro e w' ⟨rfl, rfl⟩
    exact ⟨_, rfl, rfl, by rw [← hv]; exact h, Fr.refl _ _⟩
  less := fun l w h i j hi0 hi hj0 hj => by
    obtain ⟨g, cap, hv, _, hg, _⟩ := owns_len h.2.2.1 (by omega)
    have hx := (hv ▸ h).cells rfl i.toNat (by omega)
    have hy := (hv ▸ h).cells rfl j.toNat (by omega)
    refine ⟨_, _, inv_nums_two "Less" _ i j ⟨ab, ao, none⟩ v w (.inl ⟨rfl, rfl⟩) h.1, ?_⟩
    rw [hv]
    obtain ⟨i, rfl⟩ := Int.eq_ofNat_of_zero_le hi0
    obtain ⟨j, rfl⟩ := Int.eq_ofNat_of_zero_le hj0
    rw [Int.toNat_natCast] at hx hy
    refine (less_nums g l.length cap i j (HL.el l i) (HL.el l j) w (by omega) (by omega) hx hy).mono ?_
    rintro e w' ⟨rfl, m, rfl⟩
    refine ⟨_, rfl, rfl, ?_, (Fr.refl _ w).drewN m⟩
    rw [← hv]
    exact h
  swap := fun l w h i j hi0 hi hj0 hj => by
    obtain ⟨g, cap, hv, _, hg, _⟩ := owns_len h.2.2.1 (by omega)
    have h' := hv ▸ h
    have hx := h'.cells rfl i.toNat (by omega)
    have hy := h'.cells rfl j.toNat (by omega)
    refine ⟨_, _, inv_nums_two "Swap" _ i j ⟨ab, ao, none⟩ v w (.inr ⟨rfl, rfl⟩) h.1, ?_⟩
    rw [hv]
    obtain ⟨i, rfl⟩ := Int.eq_ofNat_of_zero_le hi0
    obtain ⟨j, rfl⟩ := Int.eq_ofNat_of_zero_le hj0
    rw [Int.toNat_natCast] at hx hy
    have s1 := h'.set i (by omega) (HL.el l j)
    have s2 := s1.1.set j (by rw [List.length_set]; omega) (HL.el l i)
    have hfz : ∀ k, w.frozen? ⟨g, k, none⟩ = false := fun k => h'.2.2.1.frozenAt k
    have hfin : NumsI ab ao base (.slice (some ⟨g, 0, none⟩) l.length cap) (HL.swp l i j) _ ∧ OwnN (.slice (some ⟨g, 0, none⟩) l.length cap) w _ := ⟨s2.1, Fr.trans s1.2 s2.2 (fun k hk _ => hk)⟩
    by_cases hij : i = j
    · subst hij
      refine (swap_nums_same g l.length cap i (HL.el l i) w (by omega) hx hfz).mono ?_
      rintro e w' ⟨rfl, rfl⟩
      rw [Int.toNat_natCast]
      exact ⟨_, rfl, hfin.1.drew, hfin.2.drew⟩
    · refine (swap_nums g l.length cap i j (HL.el l i) (HL.el l j) w (by omega) (by omega) hij hx hy hfz).mono ?_
      rintro e w' ⟨rfl, rfl⟩
      rw [Int.toNat_natCast, Int.toNat_natCast]
      exact ⟨_, rfl, hfin.1.drew, hfin.2.drew⟩

set_option maxHeartbeats 400000 in
/-- heap.Push on numbers. -/
theorem heap_push_nums (ab ao base : Nat) (v : Value) (l : List Int) (x : Int) (w : World) (h : NumsI ab ao base v l w) (hh : HL.IsHeap nlt l) (hn : l.length < 1000000) :
    Calls Tryz.prog 139 #[.iface 172 (.pointer (some ⟨ab, ao, none⟩)), .iface 3 (.int .i64 x)] w fun e w' => e = .returned (.tuple #[]) ∧
      ∃ v' l', NumsI ab ao base v' l' w' ∧ HL.IsHeap nlt l' ∧ l'.Perm (l ++ [x]) ∧ Fr (fun k => k = ab ∨ v.ownBlock = some k) w w' ∧ (∀ g, v'.ownBlock = some g → Lies v g w.heap.size) ∧ Others ab ao w w' := by
  refine heap_push (lt := nlt) ?_
  refine ⟨_, _, inv_nums_push _ _ w, (push_nums ab ao v base l.length (rowOf ncells l) x w h.1 h.2.1 h.2.2.1 h.2.2.2.1 (by omega) h.2.2.2.2.2).mono ?_⟩
  rintro e w1 ⟨rfl, g, cap, hc, hf, ho, hfr, hl, hg, hoth⟩
  refine ⟨_, rfl, NumsI ab ao base (.slice (some ⟨g, 0, none⟩) (l.length + 1) cap), OwnN (.slice (some ⟨g, 0, none⟩) (l.length + 1) cap), l, x, nums_rep ab ao base _, ⟨hc, hf, ?_, fun e => hg (by simpa [Value.ownBlock] using e), by simp; omega, Nat.le_trans h.2.2.2.2.2 hfr.size⟩, hh, ?_⟩
  · rw [rowOf_append, rowOf_one, List.length_append]; exact ho
  · intro l' w2 hI hF hp hh'
    refine ⟨_, l', hI, hh', hp, Fr.trans hfr hF (fun i hi hlt => ?_), fun g' hg' => ?_, hoth.trans (Others.of_block (hF.block ab (cell_lt hc) (fun e => hg (by simpa [Value.ownBlock] using e))))⟩
    · have : g = i := by simpa [Value.ownBlock] using hi
      subst this
      rcases hl with hl | hl
      · exact .inr hl
      · omega
    · have : g = g' := by simpa [Value.ownBlock] using hg'
      subst this
      exact hl




end Go.Proofs.YtaodldagmmephaaGreat

/- pile's Pile: the contracts of slices.Clone at ints, New, Len, Put, Take and First. -/
namespace Go.Proofs.YtaodldagmmephaaGreat
open Go.RowKit

set_option maxHeartbeats 400000 in
set_option maxRecDepth 100000 in
theorem clone_ints (p : Option Addr) (n c : Nat) (zs : List Int) (w : World) (h : RdI w w.heap.size p n zs) (hn : n ≤ 1000000) :
    Calls Tryz.prog 45 #[.slice p n c] w fun e w' => ∃ v, e = .returned v ∧ w'.ownsRow w.heap.size 3 1 v n (rowOf ncells zs) ∧ Below w.heap.size w w' := by
  obtain ⟨i0, hi0, hz0, hz1, hz2⟩ := info_parts info_int
  have heq : ∀ W, (binOp .eql 32 (.slice p n c) (.slice none 0 0)).run Tryz.prog W = .ok (.bool p.isNone) W := fun W => Lib.run_eql_slice_nil W 32 3 p n c 0 0 Tryz.underlying32
  have hz := h.1
  cases p with
  | none =>
    have h0 : n = 0 := by
      rcases Nat.eq_zero_or_pos n with h0 | h0
      · exact h0
      · obtain ⟨b, o, e, _⟩ := h.2 h0; cases e
    subst h0
    have : zs = [] := List.eq_nil_of_length_eq_zero hz
    subst this
    clear h hz
    go_enter Tryz.func45, Tryz.ntmps45
    go_wp2
    go_ret
    exact ⟨_, rfl, World.ownsRow_nil _ _ _ _, Below.refl _ _⟩
  | some ad =>
    have hnews : ∀ W : World, Below w.heap.size w W → ∀ j u, (rowOf ncells zs)[j]? = some u → W.cell? (ad.add j) = some u := by
      intro W hb j u hu
      obtain ⟨hj, rfl⟩ := rowOf_ncells_get hu
      obtain ⟨b, o, e, hlt, hc⟩ := h.2 (by omega)
      injection e with e
      subst e
      rw [add_at, ← hc j (by omega)]
      exact hb.cell hlt
    have HNE := Lib.hid hnews
    have hlen : (rowOf ncells zs).length = n := by rw [rowOf_length ncells ncells_length, hz, Nat.mul_one]
    have HL1 := Lib.hid hlen
    clear h hz hnews hlen
    go_enter Tryz.func45, Tryz.ntmps45
    go_wp2_with (at_builtin; refine wpList_append_own _ rfl _ _ 32 rfl w.heap.size 3 i0 _ 1 8 Tryz.underlying32 hi0 hz0 hz1 hz2 rfl (by omega) (.slice (some ⟨w.heap.size, 0, none⟩) 0 0) 0 [] rfl ?c0 ad n c (rowOf ncells zs) rfl ?c1 ?c2 ?c3 ?c4 ?c5 ?c6 ?_; (case c0 => exact World.ownsRow_made w #[] 0 (Nat.le_refl _) (by simp [maxLen]) (by simp)); (case c1 => rw [HL1.out, Nat.mul_one]); (case c2 => exact HNE.out _ ((Below.refl _ _).alloc (Nat.le_refl _) _)); (case c3 => exact rowOf_ncells_one); (case c4 => unfold maxLen; omega); (case c5 => omega); (case c6 => simp); intro v w1 hown hgr _)
    go_ret
    rw [Nat.zero_add, List.nil_append] at hown
    refine ⟨_, rfl, hown, ((Below.refl _ _).alloc (Nat.le_refl _) _).grown hgr (by simp) (fun k hk => ?_)⟩
    have : w.heap.size = k := by simpa [Value.ownBlock] using hk
    omega

/-- Block pb is a Pile that has l, a heap. -/
def PileI (pb base : Nat) (v : Value) (l : List Int) (w : World) : Prop := NumsI pb 0 base v l w ∧ HL.IsHeap nlt l

theorem PileI.keep {pb base : Nat} {v : Value} {l : List Int} {w w' : World} (h : PileI pb base v l w) {S : Nat → Prop} (hf : Fr S w w') (hS : ∀ k, (k = pb ∨ v.ownBlock = some k) → ¬ S k) : PileI pb base v l w' :=
  ⟨h.1.keep hf (hS pb (.inl rfl)) (fun g hg => hS g (.inr hg)), h.2⟩

set_option maxHeartbeats 400000 in
set_option maxRecDepth 100000 in
theorem pile_new (p : Option Addr) (n c : Nat) (zs : List Int) (w : World) (h : RdI w w.heap.size p n zs) (hn : n ≤ 1000000) :
    Calls Tryz.prog 118 #[.slice p n c] w fun e w' => ∃ pb v l, e = .returned (.pointer (some ⟨pb, 0, none⟩)) ∧ w.heap.size ≤ pb ∧ PileI pb w.heap.size v l w' ∧ l.Perm zs ∧ Below w.heap.size w w' := by
  have HC := Lib.hid (clone_ints p n c zs w h hn)
  have hz := h.1
  have HZ := Lib.hid hz
  clear h hz
  go_enter Tryz.func118, Tryz.ntmps118
  go_wp2_with fail
  refine HC.out.mono ?_
  rintro e w1 ⟨v, rfl, ho, hb⟩
  obtain ⟨q, d, rfl⟩ := owns_slice ho
  have hz := hb.size
  have hob := fun k hk => (ho.lt k hk)
  have HI : Hid (NumsI w1.heap.size 0 w.heap.size (.slice q n d) zs (w1.alloc (.cells #[.slice q n d] 170))) :=
    ⟨by go_simp, by go_simp, by rw [HZ.out]; exact ho.alloc _, fun e => by have := (hob _ e).2; omega, by rw [HZ.out]; exact hn, by simp; omega⟩
  have HO := Lib.hid ho
  clear ho hob
  go_wp2_with fail
  refine (heap_init (nums_rep _ _ _ _) zs HI.out).mono ?_
  rintro e w2 ⟨rfl, l, hI, hF, hp, hh⟩
  have HI2 := Lib.hid (show PileI w1.heap.size w.heap.size (.slice q n d) l w2 from ⟨hI, hh⟩)
  have HF := Lib.hid hF
  clear hI hF
  go_wp2
  go_ret
  refine ⟨_, _, l, rfl, hz, HI2.out, hp, Below.trans (hb.alloc hz _) (HF.out.below (by simp; omega) (fun i hi => (HO.out.lt i hi).1))⟩

set_option maxHeartbeats 400000 in
set_option maxRecDepth 100000 in
theorem pile_len (pb base : Nat) (v : Value) (l : List Int) (w : World) (h : PileI pb base v l w) :
    Calls Tryz.prog 183 #[.pointer (some ⟨pb, 0, none⟩)] w fun e w' => e = .returned (.int .i64 l.length) ∧ w = w' := by
  obtain ⟨p, c, hv⟩ := owns_slice h.1.2.2.1
  have hc := h.1.1
  rw [hv] at hc
  clear h hv
  generalize l.length = n at *
  go_enter Tryz.func183, Tryz.ntmps183
  go_wp2
  go_ret
  exact ⟨rfl, rfl⟩




end Go.Proofs.YtaodldagmmephaaGreat

/- pile's Pile: the contract of Put. -/
namespace Go.Proofs.YtaodldagmmephaaGreat
open Go.RowKit

def pileF (pb : Nat) (v : Value) : Nat → Prop := fun k => k = pb ∨ v.ownBlock = some k

/-- What holds as Put goes on: k of the numbers are there. -/
def PutRel (pb base : Nat) (v0 : Value) (l0 zs : List Int) (w : World) (k : Nat) (wr : World) : Prop :=
  ∃ v l, PileI pb base v l wr ∧ l.Perm (l0 ++ zs.take k) ∧ Fr (pileF pb v0) w wr ∧ (∀ g, v.ownBlock = some g → Lies v0 g w.heap.size)

theorem PutRel.step {pb base : Nat} {v0 v v' : Value} {l0 zs l l' : List Int} {w wr w2 : World} {k : Nat} (hk : k < zs.length) (hp : l.Perm (l0 ++ zs.take k)) (hF : Fr (pileF pb v0) w wr) (hL : ∀ g, v.ownBlock = some g → Lies v0 g w.heap.size)
    (hI : PileI pb base v' l' w2) (hp' : l'.Perm (l ++ [HL.el zs k])) (hF' : Fr (fun i => i = pb ∨ v.ownBlock = some i) wr w2) (hL' : ∀ g, v'.ownBlock = some g → Lies v g wr.heap.size) : PutRel pb base v0 l0 zs w (k + 1) w2 := by
  refine ⟨v', l', hI, ?_, Fr.trans hF hF' (fun i hi hlt => ?_), fun g hg => ?_⟩
  · have e : zs.take (k + 1) = zs.take k ++ [HL.el zs k] := by
      rw [List.take_succ_eq_append_getElem hk]
      have := HL.el_eq zs k hk
      rw [List.getElem?_eq_getElem hk] at this
      injection this with this
      rw [this]
    rw [e, ← List.append_assoc]
    exact hp'.trans (hp.append_right _)
  · rcases hi with hi | hi
    · exact .inl hi
    · rcases hL i hi with h | h
      · exact .inr h
      · omega
  · rcases hL' g hg with h | h
    · exact hL g h
    · exact .inr (Nat.le_trans hF.size h)

set_option maxHeartbeats 400000 in
set_option maxRecDepth 100000 in
theorem pile_put (pb base : Nat) (v : Value) (l zs : List Int) (p : Option Addr) (n c : Nat) (w : World) (h : PileI pb base v l w) (hz : RdI w w.heap.size p n zs) (hS : ∀ b o, p = some ⟨b, o, none⟩ → 0 < n → ¬ pileF pb v b) (hn : l.length + n < 1000000) :
    Calls Tryz.prog 127 #[.pointer (some ⟨pb, 0, none⟩), .slice p n c] w fun e w' => e = .returned (.tuple #[]) ∧
      ∃ v' l', PileI pb base v' l' w' ∧ l'.Perm (l ++ zs) ∧ Fr (pileF pb v) w w' ∧ (∀ g, v'.ownBlock = some g → Lies v g w.heap.size) := by
  have hzl := hz.1
  have hst : PutRel pb base v l zs w 0 w := ⟨v, l, h, by simp, Fr.refl _ _, fun g hg => .inl hg⟩
  have HST := Lib.hid hst; clear hst h
  have HZ := Lib.hid hz; clear hz
  have HZL := Lib.hid hzl; clear hzl
  have HS := Lib.hid hS; clear hS
  go_enter Tryz.func127, Tryz.ntmps127
  go_wp2
  go_loopw [5, 10] (fun _ iv wr => ∃ k : Nat, k ≤ n ∧ iv = .int .i64 k ∧ PutRel pb base v l zs w k wr) (fun _ iv _ => n - (intOf iv).toNat)
  case atStart => exact ⟨0, Nat.zero_le _, rfl, HST.out⟩
  case round =>
    clear HST
    obtain ⟨k, hk, rfl, v1, l1, hI, hp, hF, hL⟩ := hrel
    have hlen : l1.length ≤ l.length + k := by rw [hp.length_eq, List.length_append, List.length_take]; omega
    have HL1 := Lib.hid hL; clear hL
    by_cases hlt : k < n
    · obtain ⟨b, o, e, hb, hc⟩ := HZ.out.2 (by omega)
      have hcell := (hF.cell (p := ⟨b, o + k, none⟩) hb (HS.out b o e (by omega))).trans (hc k hlt)
      clear hc
      subst e
      have HP := Lib.hid (heap_push_nums pb 0 base v1 l1 (HL.el zs k) wr hI.1 hI.2 (by omega))
      clear hI
      generalize hx : HL.el zs k = x at *
      have HX := Lib.hid hx; clear hx
      go_wp2_with fail
      refine HP.out.mono ?_
      rintro e w2 ⟨rfl, v2, l2, hI2, hh2, hp2, hF2, hL2, _⟩
      have HR : Hid (PutRel pb base v l zs w (k + 1) w2) := PutRel.step (by rw [HZL.out]; exact hlt) hp hF HL1.out ⟨hI2, hh2⟩ (by rw [HX.out]; exact hp2) hF2 hL2
      clear hI2 hh2 hp2 hF2 hL2
      go_wp2
      go_roundw
      case rel => exact ⟨k + 1, by omega, by go_num, HR.out⟩
      case measure => simp [intOf]; omega
    · have : k = n := by omega
      subst this
      go_wp2
      go_end0
      exact ⟨rfl, v1, l1, hI, by rw [List.take_of_length_le (by rw [HZL.out]; omega)] at hp; exact hp, hF, HL1.out⟩
end Go.Proofs.YtaodldagmmephaaGreat

/- slices.Sorted(slices.Values(h)) and the Pile's List: the numbers, rising, in a new slice. -/
namespace Go.Proofs.YtaodldagmmephaaGreat
open Go.RowKit Go.Shelf Go.Sort

theorem rowOf_map (zs : List Int) : rowOf ncells zs = zs.map (Value.int .i64) := by
  induction zs with
  | nil => rfl
  | cons x zs ih => simp only [rowOf, List.flatMap_cons, List.map_cons] at *; rw [ih]; rfl

theorem sort_some (blk off cap : Nat) (zs : List Int) (w : World) (hH : Holds (Value.int .i64) w blk off zs.toArray) (hblk : blk < w.heap.size) (hsz : zs.length ≤ 1000000) :
    Calls Tryz.prog 142 #[.slice (some ⟨blk, off, none⟩) zs.length cap] w fun e w' =>
      e = .returned (.tuple #[]) ∧ ∃ n os, w' = grow (putRow (Value.int .i64) (Sort.ahead w n) blk off (CL.srt zs).toArray) os :=
  AnyM.slices_Sort_int Tryz.laySort blk off cap zs w hH hblk (by omega)

theorem sort_none (p : Option Addr) (cap : Nat) (w : World) :
    Calls Tryz.prog 142 #[.slice p 0 cap] w fun e w' => e = .returned (.tuple #[]) ∧ w' = w :=
  AnyM.slices_Sort_int_none Tryz.laySort p cap w

/-- slices.Sort of a row that is owned. -/
theorem sort_own (base : Nat) (v : Value) (zs : List Int) (w : World) (hn : zs.length ≤ 1000000) (ho : w.ownsRow base 3 1 v zs.length (zs.map (Value.int .i64))) :
    Calls Tryz.prog 142 #[v] w fun e w' => e = .returned (.tuple #[]) ∧ w'.ownsRow base 3 1 v zs.length ((CL.srt zs).map (Value.int .i64)) ∧ w.grownBy w' v.ownBlock := by
  rcases ho.2 with ⟨rfl, hz⟩ | ⟨gb, cap, cur, rfl, hbase, hgb, r1, r2, r3, r4⟩
  · have hzs : zs = [] := List.eq_nil_of_length_eq_zero hz
    subst hzs
    refine (sort_none none 0 w).mono ?_
    rintro e w' ⟨rfl, rfl⟩
    exact ⟨rfl, by simpa [CL.srt] using ho, ⟨rfl, rfl, rfl, Nat.le_refl _, fun _ _ _ => rfl⟩⟩
  · have hH : Holds (Value.int .i64) w gb 0 zs.toArray := holds_of_block_i hgb (by simpa using r4)
    have hgl : gb < w.heap.size := (Array.getElem?_eq_some_iff.1 hgb).1
    refine (sort_some gb 0 cap zs w hH hgl hn).mono ?_
    rintro e w' ⟨rfl, nn, os, rfl⟩
    exact ⟨rfl, ownsRow_sorted_i (by simp [CL.srt]) hbase hgb r1 r2 r3, grownBy_sorted_i _⟩

set_option maxRecDepth 100000 in
theorem sorted_seq (Bs len cap : Nat) (p : Option Addr) (zs : List Int) (hbig : len ≤ 1000000) (w : World) (hBs : Bs < w.heap.size) (hc : w.cell? ⟨Bs, 0, none⟩ = some (.slice p len cap)) (hR : RdI w w.heap.size p len zs) :
    Calls Tryz.prog 135 #[.func (.func 143) #[] #[.pointer (some ⟨Bs, 0, none⟩)]] w fun e w' =>
      ∃ v, e = .returned v ∧ w'.ownsRow w.heap.size 3 1 v zs.length ((CL.srt zs).map (Value.int .i64)) ∧ Below w.heap.size w w' := by
  have HA := Lib.hid (collect_seq Bs len cap p zs hbig w hBs hc hR)
  have HZ := Lib.hid hR.1
  clear hc hR
  go_enter Tryz.func135, Tryz.ntmps135
  go_wp2_with fail
  refine HA.out.mono ?_
  rintro e w1 ⟨v, rfl, ho, hb⟩
  have HO := Lib.hid ho
  have HB := Lib.hid hb
  clear ho hb
  go_wp2_with fail
  refine (sort_own w.heap.size v zs w1 (by have := HZ.out; omega) HO.out).mono ?_
  rintro e w2 ⟨rfl, ho2, hg⟩
  have HO2 := Lib.hid ho2
  have HG := Lib.hid hg
  clear ho2 hg
  go_wp2
  go_ret
  exact ⟨v, rfl, HO2.out, HB.out.grown HG.out HB.out.size (fun k hk => (HO.out.lt k hk).1)⟩

theorem nums_rd {pb base : Nat} {q : Option Addr} {n d : Nat} {l : List Int} {w : World} (h : PileI pb base (.slice q n d) l w) : RdI w w.heap.size q n l := by
  have ho := h.1.2.2.1
  obtain ⟨p', c', e⟩ := owns_slice ho
  injection e with _ e2 _
  subst e2
  exact RdI.of_own ho rfl

set_option maxRecDepth 100000 in
theorem pile_list (pb base : Nat) (v : Value) (l : List Int) (w : World) (h : PileI pb base v l w) :
    Calls Tryz.prog 119 #[.pointer (some ⟨pb, 0, none⟩)] w fun e w' =>
      ∃ u, e = .returned u ∧ w'.ownsRow w.heap.size 3 1 u l.length (rowOf ncells (CL.srt l)) ∧ Below w.heap.size w w' := by
  obtain ⟨q, d, rfl⟩ := owns_slice h.1.2.2.1
  have hc := h.1.1
  have hn := h.1.2.2.2.2.1
  have HR := Lib.hid (nums_rd h)
  have HH := Lib.hid h
  clear h
  go_enter Tryz.func119, Tryz.ntmps119
  go_wp2_with fail
  refine (values_call q l.length d w).mono ?_
  rintro e w1 ⟨rfl, rfl⟩
  have hb : Below w.heap.size w (w.alloc (.cells #[.slice q l.length d] 168)) := (Below.refl _ _).alloc (Nat.le_refl _) _
  have HB := Lib.hid hb
  have HS := Lib.hid (sorted_seq w.heap.size l.length d q l (by omega) (w.alloc (.cells #[.slice q l.length d] 168)) (by simp) (by go_simp) ((HR.out.below hb).more (by simp)))
  clear hb
  go_wp2_with fail
  refine HS.out.mono ?_
  rintro e w2 ⟨u, rfl, ho, hb2⟩
  have HO := Lib.hid ho
  have HB2 := Lib.hid hb2
  clear ho hb2
  go_wp2
  go_ret
  refine ⟨u, rfl, ?_, HB.out.trans (HB2.out.mono (by simp))⟩
  rw [rowOf_map]
  have := HO.out
  refine ⟨this.1, ?_⟩
  rcases this.2 with e | ⟨g, c, cur, e, hbase, rest⟩
  · exact .inl e
  · exact .inr ⟨g, c, cur, e, by simp at hbase; omega, rest⟩
end Go.Proofs.YtaodldagmmephaaGreat

/- Plain facts on quorums: no program in sight. -/
namespace Go.Proofs.YtaodldagmmephaaGreat
namespace CL

theorem cnt_perm {a a' v : List Int} (h : a.Perm a') : cnt a v = cnt a' v := (h.filter _).length_eq

theorem won_iff {m v : List Int} (h : 0 < (nrm m).length) : won m v = decide (quo (nrm m).length ≤ cnt (nrm m) v) := by
  unfold won
  have hq : 1 ≤ quo (nrm m).length := by unfold quo; rw [if_neg (by omega)]; omega
  by_cases h1 : quo (nrm m).length ≤ cnt (nrm m) v
  · have : 0 < cnt (nrm m) v := by omega
    simp [h1, this]
  · simp [h1]

theorem quo_two {n : Nat} (h : 0 < n) : n < 2 * quo n := by unfold quo; rw [if_neg (by omega)]; omega
theorem quo_le (n : Nat) : quo n ≤ n := by unfold quo; split <;> omega

theorem perm_add {m n : List Int} {x : Int} (hm : Up m) (hn : Up n) (hx : x ∉ m) (h : ∀ y, y ∈ n ↔ y = x ∨ y ∈ m) : n.Perm (x :: m) :=
  (List.perm_ext_iff_of_nodup (up_nodup hn) (List.nodup_cons.2 ⟨hx, up_nodup hm⟩)).2 (fun y => by rw [h, List.mem_cons])

/-- Two quorums have one in common. -/
theorem meet {m n a b : List Int} (hm : Up m) (hn : Up n) (hm0 : 0 < m.length) (hn0 : 0 < n.length) (hs : n = m ∨ (∃ x, n.Perm (x :: m)) ∨ ∃ x, m.Perm (x :: n)) (ha : won m a = true) (hb : won n b = true) : ∃ x, x ∈ a ∧ x ∈ b ∧ x ∈ m := by
  apply Classical.byContradiction
  intro hno
  have h2 : cnt m a + cnt m b ≤ m.length := cnt_two (fun x h1 h2 h3 => hno ⟨x, h2, h3, h1⟩)
  rw [won_iff (by rw [nrm_of_up hm]; exact hm0), nrm_of_up hm] at ha
  rw [won_iff (by rw [nrm_of_up hn]; exact hn0), nrm_of_up hn] at hb
  have ha' : quo m.length ≤ cnt m a := by simpa using ha
  have hb' : quo n.length ≤ cnt n b := by simpa using hb
  unfold quo at ha' hb'
  rw [if_neg (by omega)] at ha' hb'
  rcases hs with rfl | ⟨x, hp⟩ | ⟨x, hp⟩
  · omega
  · have e1 := hp.length_eq
    have e2 : cnt n b ≤ cnt m b + 1 := by
      rw [cnt_perm hp]
      unfold cnt
      rw [List.filter_cons]
      split <;> simp
    simp at e1
    omega
  · have e1 := hp.length_eq
    have e2 : cnt n b ≤ cnt m b := by
      rw [cnt_perm hp]
      unfold cnt
      rw [List.filter_cons]
      split <;> simp
    simp at e1
    omega

/-- The number that stands q from the end of the sorted row: q are as great at least, fewer than q are greater. -/
theorem stat_ge {ys : List Int} {q : Nat} {x : Int} (hq : q ≤ ys.length) (hx : (srt ys)[ys.length - q]? = some x) : q ≤ (ys.filter (fun v => decide (x ≤ v))).length := by
  rw [← ((srt_perm ys).filter _).length_eq]
  have hl := srt_length ys
  rw [← List.take_append_drop (ys.length - q) (srt ys), List.filter_append, List.length_append]
  have : (List.drop (ys.length - q) (srt ys)).filter (fun v => decide (x ≤ v)) = List.drop (ys.length - q) (srt ys) := by
    rw [List.filter_eq_self]
    intro v hv
    obtain ⟨j, hj, rfl⟩ := List.getElem_of_mem hv
    rw [List.getElem_drop]
    have hj' : ys.length - q + j < (srt ys).length := by simp at hj; omega
    have hx' : ∃ h, (srt ys)[ys.length - q]'h = x := by rw [List.getElem?_eq_some_iff] at hx; exact hx
    obtain ⟨h0, rfl⟩ := hx'
    rcases Nat.eq_zero_or_pos j with e | e
    · subst e; simp
    · have := List.pairwise_iff_getElem.1 (srt_sorted ys) (ys.length - q) (ys.length - q + j) h0 hj' (by omega)
      simpa using this
  rw [this, List.length_drop]
  omega

theorem stat_gt {ys : List Int} {q : Nat} {x : Int} (h1 : 1 ≤ q) (hq : q ≤ ys.length) (hx : (srt ys)[ys.length - q]? = some x) : (ys.filter (fun v => decide (x < v))).length < q := by
  rw [← ((srt_perm ys).filter _).length_eq]
  have hl := srt_length ys
  rw [← List.take_append_drop (ys.length - q + 1) (srt ys), List.filter_append, List.length_append]
  have : (List.take (ys.length - q + 1) (srt ys)).filter (fun v => decide (x < v)) = [] := by
    rw [List.filter_eq_nil_iff]
    intro v hv
    obtain ⟨j, hj, rfl⟩ := List.getElem_of_mem hv
    rw [List.getElem_take]
    have hj' : j < ys.length - q + 1 := by simp at hj; omega
    have hx' : ∃ h, (srt ys)[ys.length - q]'h = x := by rw [List.getElem?_eq_some_iff] at hx; exact hx
    obtain ⟨h0, rfl⟩ := hx'
    rcases Nat.lt_or_ge j (ys.length - q) with g | g
    · have := List.pairwise_iff_getElem.1 (srt_sorted ys) j (ys.length - q) (by omega) h0 g
      simp; omega
    · obtain rfl : j = ys.length - q := by omega
      simp
  rw [this]
  have h3 : ((List.drop (ys.length - q + 1) (srt ys)).filter (fun v => decide (x < v))).length ≤ (List.drop (ys.length - q + 1) (srt ys)).length := List.length_filter_le _ _
  rw [List.length_drop] at h3
  simp only [List.length_nil]
  omega
end CL
end Go.Proofs.YtaodldagmmephaaGreat

/- conf: the contracts of Has, Quorum, Norm, Valid and Won. -/
namespace Go.Proofs.YtaodldagmmephaaGreat
open Go.RowKit Go.Sort

set_option maxHeartbeats 400000 in
set_option maxRecDepth 100000 in
theorem index_ints (p : Option Addr) (n c B : Nat) (l : List Int) (x : Int) (w : World) (h : RdI w B p n l) (hn : n ≤ 1000000) :
    Calls Tryz.prog 120 #[.slice p n c, .int .i64 x] w fun e w' => w = w' ∧ ((∃ k : Nat, e = .returned (.int .i64 k) ∧ k < n ∧ HL.el l k = x ∧ ∀ j, j < k → HL.el l j ≠ x) ∨ (e = .returned (.int .i64 (-1)) ∧ x ∉ l)) := by
  have hl := h.1
  have HC := Lib.hid h
  have HLN := Lib.hid hl
  clear h hl
  go_enter Tryz.func120, Tryz.ntmps120
  go_wp2
  go_loop [4, 5, 8] (fun _ _ iv => ∃ k : Nat, k ≤ n ∧ iv = .int .i64 k ∧ ∀ j, j < k → HL.el l j ≠ x) (fun _ _ iv => n - (intOf iv).toNat)
  case atStart => exact ⟨0, Nat.zero_le _, rfl, fun j hj => by omega⟩
  case round =>
    obtain ⟨k, hk, rfl, hno⟩ := hrel
    have HN := Lib.hid hno; clear hno
    by_cases hlt : k < n
    · obtain ⟨b, o, hp, _, hcs⟩ := HC.out.2 (by omega)
      have hcell := hcs k hlt
      clear hcs
      subst hp
      by_cases hx : x = HL.el l k
      · have hb : (x == HL.el l k) = true := by rw [beq_iff_eq]; exact hx
        have HX := Lib.hid hx
        clear hx
        generalize hy : HL.el l k = y at *
        have HY := Lib.hid hy; clear hy
        go_wp2
        go_ret
        exact ⟨rfl, .inl ⟨k, rfl, hlt, by rw [HY.out, HX.out], HN.out⟩⟩
      · have hb : (x == HL.el l k) = false := by rw [beq_eq_false_iff_ne]; exact hx
        have HX := Lib.hid hx
        clear hx
        generalize hy : HL.el l k = y at *
        have HY := Lib.hid hy; clear hy
        go_wp2
        go_round
        case rel => exact ⟨k + 1, by omega, by go_num, fun j hj => by
          by_cases e : j = k
          · subst e; rw [HY.out]; exact fun h => HX.out h.symm
          · exact HN.out j (by omega)⟩
        case measure => simp [intOf]; omega
    · go_wp2
      go_ret
      refine ⟨rfl, .inr ⟨rfl, fun hm => ?_⟩⟩
      obtain ⟨j, hj, e⟩ := List.getElem_of_mem hm
      refine HN.out j (by have := HLN.out; omega) ?_
      have := HL.el_eq l j hj
      rw [List.getElem?_eq_getElem hj] at this
      injection this with this
      rw [← this, e]

theorem el_mem {l : List Int} {k : Nat} (h : k < l.length) : HL.el l k ∈ l := by
  have := HL.el_eq l k h
  exact List.mem_of_getElem? this

set_option maxRecDepth 100000 in
theorem contains_ints (p : Option Addr) (n c B : Nat) (l : List Int) (x : Int) (w : World) (h : RdI w B p n l) (hn : n ≤ 1000000) :
    Calls Tryz.prog 97 #[.slice p n c, .int .i64 x] w fun e w' => e = .returned (.bool (decide (x ∈ l))) ∧ w = w' := by
  have HI := Lib.hid (index_ints p n c B l x w h hn)
  have HLN := Lib.hid h.1
  clear h
  go_enter Tryz.func97, Tryz.ntmps97
  go_wp2_with fail
  refine HI.out.mono ?_
  rintro e w1 ⟨rfl, ⟨k, rfl, hk, hx, _⟩ | ⟨rfl, hx⟩⟩
  · have hin : x ∈ l := by rw [← hx]; exact el_mem (by have := HLN.out; omega)
    have hd : decide (x ∈ l) = true := by simpa using hin
    have h0 : decide ((0 : Int) ≤ (k : Int)) = true := by simp
    have HD := Lib.hid hd
    clear hin hd hx
    go_wp2
    go_ret
    exact ⟨by rw [HD.out]; simp, rfl⟩
  · have hd : decide (x ∈ l) = false := by simpa using hx
    have HD := Lib.hid hd
    clear hd hx
    go_wp2
    go_ret
    exact ⟨by rw [HD.out]; rfl, rfl⟩

set_option maxRecDepth 100000 in
theorem has_ints (p : Option Addr) (n c B : Nat) (l : List Int) (x : Int) (w : World) (h : RdI w B p n l) (hn : n ≤ 1000000) :
    Calls Tryz.prog 73 #[.slice p n c, .int .i64 x] w fun e w' => e = .returned (.bool (decide (x ∈ l))) ∧ w = w' := by
  have HI := Lib.hid (contains_ints p n c B l x w h hn)
  clear h
  go_enter Tryz.func73, Tryz.ntmps73
  go_wp2_with fail
  refine HI.out.mono ?_
  rintro e w1 ⟨rfl, rfl⟩
  go_wp2
  go_ret
  exact ⟨rfl, rfl⟩

set_option maxRecDepth 100000 in
theorem quorum_int (n : Nat) (w : World) (hn : n ≤ 1000000) :
    Calls Tryz.prog 121 #[.int .i64 n] w fun e w' => e = .returned (.int .i64 (CL.quo n)) ∧ w = w' := by
  by_cases h : n < 1
  · have e : CL.quo n = 0 := by unfold CL.quo; rw [if_pos h]
    rw [e]
    have h' : n = 0 := by omega
    subst h'
    clear e
    go_enter Tryz.func121, Tryz.ntmps121
    go_wp2
    go_ret
    exact ⟨rfl, rfl⟩
  · have e : ((CL.quo n : Nat) : Int) = (n : Int).tdiv 2 + 1 := by
      unfold CL.quo; rw [if_neg h]
      rw [Int.tdiv_eq_ediv_of_nonneg (by omega)]
      omega
    rw [e]
    have hd : (n : Int).tdiv 2 = ((n / 2 : Nat) : Int) := by rw [Int.tdiv_eq_ediv_of_nonneg (by omega)]; omega
    have h1 : ¬ ((n : Int) < 1) := by omega
    have hw : IntKind.i64.wrap ((n : Int).tdiv 2) = (n : Int).tdiv 2 := IntWalk.i64_in _ ⟨by rw [hd]; omega, by rw [hd]; omega⟩
    have hw2 : IntKind.i64.wrap ((n : Int).tdiv 2 + 1) = (n : Int).tdiv 2 + 1 := IntWalk.i64_in _ ⟨by rw [hd]; omega, by rw [hd]; omega⟩
    clear e hd
    go_enter Tryz.func121, Tryz.ntmps121
    go_wp2
    go_ret
    exact ⟨rfl, rfl⟩

/-- A row that is owned, cut short. -/
theorem owns_cut {w : World} {base g n k cap : Nat} {e : TypeId} {xs : List Value} (h : w.ownsRow base e 1 (.slice (some ⟨g, 0, none⟩) n cap) n xs) (hk : k ≤ n) : w.ownsRow base e 1 (.slice (some ⟨g, 0, none⟩) k cap) k (xs.take k) := by
  have hl := h.1
  refine ⟨by rw [List.length_take]; omega, ?_⟩
  rcases h.2 with ⟨e, _⟩ | ⟨g', c', cur, e, hb, hg, h1, h2, h3, h4⟩
  · cases e
  · injection e with e1 _ e3
    injection e1 with e1
    injection e1 with e1 _
    subst e1 e3
    refine .inr ⟨g, cap, cur, rfl, hb, hg, by omega, h2, h3, ?_⟩
    rw [← h4, List.take_take, Nat.mul_one, Nat.mul_one, Nat.min_eq_left hk]

theorem compact_own (base : Nat) (v : Value) (zs : List Int) (w : World) (hn : zs.length ≤ 1000000) (ho : w.ownsRow base 3 1 v zs.length (rowOf ncells zs)) :
    Calls Tryz.prog 117 #[v] w fun e w' => ∃ q c, e = .returned (.slice q (Lib.compact zs).length c) ∧ w'.ownsRow base 3 1 (.slice q (Lib.compact zs).length c) (Lib.compact zs).length (rowOf ncells (Lib.compact zs)) ∧ w.grownBy w' v.ownBlock := by
  rw [rowOf_map] at ho
  rcases ho.2 with ⟨rfl, hz⟩ | ⟨gb, cap, cur, rfl, hbase, hgb, r1, r2, r3, r4⟩
  · have hzs : zs = [] := List.eq_nil_of_length_eq_zero hz
    subst hzs
    refine (Any.slices_Compact_int_empty Tryz.layCompact none 0 w).mono ?_
    rintro e w' ⟨rfl, rfl⟩
    exact ⟨none, 0, rfl, World.ownsRow_nil _ _ _ _, ⟨rfl, rfl, rfl, Nat.le_refl _, fun _ _ _ => rfl⟩⟩
  · have hH : Holds (Value.int .i64) w gb 0 zs.toArray := holds_of_block_i hgb (by simpa using r4)
    have hgl : gb < w.heap.size := (Array.getElem?_eq_some_iff.1 hgb).1
    refine (Any.slices_Compact_int Tryz.layCompact gb 0 cap zs w hH (by omega) r1).mono ?_
    rintro e w' ⟨rfl, nn, rfl⟩
    have hcl : (Lib.compact zs).length ≤ zs.length := by
      unfold Lib.compact Lib.compactUpTo
      rw [List.length_map]
      exact Nat.le_trans (List.length_filter_le _ _) (by simp)
    have h1 := ownsRow_sorted_i (n := nn) (os := #[]) (ss := zs) (ts := Lib.compact zs ++ List.replicate (zs.length - (Lib.compact zs).length) 0) (by simp; omega) hbase hgb r1 r2 r3
    have h2 := grownBy_sorted_i (w := w) (g := gb) (n := nn) (os := #[]) (Lib.compact zs ++ List.replicate (zs.length - (Lib.compact zs).length) 0).toArray
    have hg : ∀ W : World, grow W #[] = W := fun W => by simp [grow]
    rw [hg] at h1 h2
    refine ⟨_, cap, rfl, ?_, h2⟩
    have h3 := owns_cut h1 hcl
    rw [List.map_append, List.take_append_of_le_length (by simp), List.take_of_length_le (by simp)] at h3
    rw [rowOf_map]
    exact h3

set_option maxRecDepth 100000 in
theorem norm_ints (p : Option Addr) (n c : Nat) (zs : List Int) (w : World) (h : RdI w w.heap.size p n zs) (hn : n ≤ 1000000) (N : Nat) (hN : (CL.nrm zs).length = N) :
    Calls Tryz.prog 93 #[.slice p n c] w fun e w' => ∃ q d, e = .returned (.slice q N d) ∧ w'.ownsRow w.heap.size 3 1 (.slice q N d) N (rowOf ncells (CL.nrm zs)) ∧ Below w.heap.size w w' := by
  have HR := Lib.hid h
  have HNN := Lib.hid hN
  clear h hN
  go_enter Tryz.func93, Tryz.ntmps93
  go_wp2_with fail
  refine (pile_new p n c zs w HR.out hn).mono ?_
  rintro e w1 ⟨pb, v, l, rfl, hpb, hP, hpp, hb⟩
  have HP := Lib.hid hP
  have HPP := Lib.hid hpp
  have HB := Lib.hid hb
  clear hP hpp hb
  go_wp2_with fail
  refine (pile_list pb _ v l w1 HP.out).mono ?_
  rintro e w2 ⟨u, rfl, ho, hb2⟩
  rw [CL.srt_of_perm HPP.out] at ho
  have HO : Hid (w2.ownsRow w1.heap.size 3 1 u (CL.srt zs).length (rowOf ncells (CL.srt zs))) := by
    rw [HPP.out.length_eq] at ho
    rw [CL.srt_length]
    exact ho
  have HB2 := Lib.hid hb2
  have HLE : Hid ((CL.srt zs).length ≤ 1000000) := Lib.hid (by rw [CL.srt_length, HR.out.1]; exact hn)
  clear ho hb2
  go_wp2_with fail
  refine (compact_own w1.heap.size u (CL.srt zs) w2 HLE.out HO.out).mono ?_
  rintro e w3 ⟨q, d, rfl, ho3, hg⟩
  have HO3 : Hid (w3.ownsRow w.heap.size 3 1 (.slice q N d) N (rowOf ncells (CL.nrm zs))) := by
    have e : (Lib.compact (CL.srt zs)).length = N := HNN.out
    rw [e] at ho3
    refine ⟨ho3.1, ?_⟩
    rcases ho3.2 with e | ⟨g, c, cur, e, hbase, rest⟩
    · exact .inl e
    · exact .inr ⟨g, c, cur, e, Nat.le_trans HB.out.size hbase, rest⟩
  have HB3 : Hid (Below w.heap.size w w3) := HB.out.trans (((HB2.out.grown hg HB2.out.size (fun k hk => (HO.out.lt k hk).1)).mono HB.out.size))
  have e : (Lib.compact (CL.srt zs)).length = N := HNN.out
  rw [e]
  clear ho3 hg e
  go_wp2
  go_ret
  exact ⟨q, d, rfl, HO3.out, HB3.out⟩
end Go.Proofs.YtaodldagmmephaaGreat

/- conf: the contracts of isId, Valid and Won. -/
namespace Go.Proofs.YtaodldagmmephaaGreat
open Go.RowKit

namespace CL
def isId (x : Int) : Bool := decide (1 ≤ x) && decide (x ≤ 64)
/-- The first k members are as they must be. -/
def goodTo (zs : List Int) (k : Nat) : Prop := ∀ i, i < k → isId (HL.el zs i) = true ∧ (0 < i → HL.el zs (i - 1) < HL.el zs i)
def Valid (zs : List Int) : Prop := 1 ≤ zs.length ∧ zs.length ≤ 9 ∧ goodTo zs zs.length

theorem goodTo_succ {zs : List Int} {k : Nat} (h : goodTo zs k) (h1 : isId (HL.el zs k) = true) (h2 : 0 < k → HL.el zs (k - 1) < HL.el zs k) : goodTo zs (k + 1) := by
  intro i hi
  by_cases e : i = k
  · subst e; exact ⟨h1, h2⟩
  · exact h i (by omega)

theorem Valid.up {zs : List Int} (h : Valid zs) : Up zs := by
  have key : ∀ d i, i + d + 1 < zs.length → HL.el zs i < HL.el zs (i + d + 1) := by
    intro d
    induction d with
    | zero => intro i hi; have := (h.2.2 (i + 1) (by omega)).2 (by omega); simpa using this
    | succ d ih =>
      intro i hi
      have h1 := ih i (by omega)
      have h2 := (h.2.2 (i + (d + 1) + 1) hi).2 (by omega)
      have e : i + (d + 1) + 1 - 1 = i + d + 1 := by omega
      rw [e] at h2
      omega
  unfold Up
  rw [List.pairwise_iff_getElem]
  intro i j hi hj hij
  have h1 := HL.el_eq zs i hi
  have h2 := HL.el_eq zs j hj
  rw [List.getElem?_eq_getElem hi] at h1
  rw [List.getElem?_eq_getElem hj] at h2
  injection h1 with h1
  injection h2 with h2
  rw [h1, h2]
  have := key (j - i - 1) i (by omega)
  have e : i + (j - i - 1) + 1 = j := by omega
  rw [e] at this
  exact this

theorem Valid.id {zs : List Int} (h : Valid zs) : ∀ x ∈ zs, isId x = true := by
  intro x hx
  obtain ⟨j, hj, e⟩ := List.getElem_of_mem hx
  have h1 := HL.el_eq zs j hj
  rw [List.getElem?_eq_getElem hj] at h1
  injection h1 with h1
  have := (h.2.2 j hj).1
  rw [← h1, e] at this
  exact this

theorem valid_of {zs : List Int} (h1 : 1 ≤ zs.length) (h9 : zs.length ≤ 9) (hu : Up zs) (hi : ∀ x ∈ zs, isId x = true) : Valid zs := by
  refine ⟨h1, h9, fun i hi' => ⟨hi _ (el_mem hi'), fun h0 => ?_⟩⟩
  have a1 := HL.el_eq zs i hi'
  have a2 := HL.el_eq zs (i - 1) (by omega)
  rw [List.getElem?_eq_getElem hi'] at a1
  rw [List.getElem?_eq_getElem (by omega)] at a2
  injection a1 with a1
  injection a2 with a2
  rw [← a1, ← a2]
  exact List.pairwise_iff_getElem.1 hu (i - 1) i (by omega) hi' (by omega)
end CL

set_option maxRecDepth 100000 in
theorem isId_int (x : Int) (w : World) :
    Calls Tryz.prog 89 #[.int .i64 x] w fun e w' => e = .returned (.bool (CL.isId x)) ∧ w = w' := by
  unfold CL.isId
  by_cases h1 : 1 ≤ x
  · by_cases h2 : x ≤ 64
    · go_enter Tryz.func89, Tryz.ntmps89
      go_wp2
      go_ret
      exact ⟨by simp [h1, h2], rfl⟩
    · go_enter Tryz.func89, Tryz.ntmps89
      go_wp2
      go_ret
      exact ⟨by simp [h2], rfl⟩
  · go_enter Tryz.func89, Tryz.ntmps89
    go_wp2
    go_ret
    exact ⟨by simp; omega, rfl⟩

set_option maxHeartbeats 1000000 in
set_option maxRecDepth 100000 in
theorem valid_ints (p : Option Addr) (n c B : Nat) (zs : List Int) (w : World) (h : RdI w B p n zs) :
    Calls Tryz.prog 43 #[.slice p n c] w fun e w' => ∃ b m, e = .returned (.bool b) ∧ (b = true ↔ CL.Valid zs) ∧ w' = w.drewN m := by
  have hl := h.1
  have HC := Lib.hid h
  have HLN := Lib.hid hl
  clear h hl
  by_cases h1 : n < 1
  · have : n = 0 := by omega
    subst this
    go_enter Tryz.func43, Tryz.ntmps43
    go_wp2
    go_ret
    exact ⟨false, 0, rfl, ⟨fun h => (by cases h), fun h => by have := h.1; have := HLN.out; omega⟩, rfl⟩
  · by_cases h9 : 9 < n
    · go_enter Tryz.func43, Tryz.ntmps43
      go_wp2
      go_ret
      exact ⟨false, 0, rfl, ⟨fun h => (by cases h), fun h => by have := h.2.1; have := HLN.out; omega⟩, rfl⟩
    · go_enter Tryz.func43, Tryz.ntmps43
      go_wp2
      go_loopw [15] (fun iv wr => ∃ k : Nat, k ≤ n ∧ iv = .int .i64 k ∧ CL.goodTo zs k ∧ ∃ m, wr = w.drewN m) (fun iv _ => n - (intOf iv).toNat)
      case atStart => exact ⟨0, Nat.zero_le _, rfl, fun i hi => by omega, 0, rfl⟩
      case round =>
        obtain ⟨k, hk, rfl, hg, m, rfl⟩ := hrel
        have HG := Lib.hid hg
        clear hg
        by_cases hlt : k < n
        · obtain ⟨b, o, hp, _, hcs⟩ := HC.out.2 (by omega)
          have hcell := hcs k hlt
          have hcell1 : 0 < k → w.cell? ⟨b, o + (k - 1), none⟩ = some (.int .i64 (HL.el zs (k - 1))) := fun h => hcs (k - 1) (by omega)
          clear hcs
          subst hp
          have HI := Lib.hid (isId_int (HL.el zs k))
          by_cases hid : CL.isId (HL.el zs k) = true
          · rw [hid] at HI
            by_cases hk0 : k = 0
            · subst hk0
              have HID := Lib.hid hid
              clear hid hcell1
              rw [Nat.add_zero] at hcell
              generalize hx : HL.el zs 0 = x at *
              have HX := Lib.hid hx; clear hx
              go_wp2_with fail
              refine (HI.out _).mono ?_
              rintro e w1 ⟨rfl, rfl⟩
              go_wp2
              go_roundw
              case rel => exact ⟨1, by omega, by go_num, CL.goodTo_succ HG.out (by rw [HX.out]; exact HID.out) (fun h => by omega), m, rfl⟩
              case measure => simp [intOf]; omega
            · have hc1 := hcell1 (by omega)
              have e1 : IntKind.i64.wrap ((k : Int) - 1) = ((k - 1 : Nat) : Int) := by rw [IntWalk.i64_in _ ⟨by omega, by omega⟩]; omega
              have hpos : 0 < k := by omega
              have HID := Lib.hid hid
              have HK0 := Lib.hid hk0
              by_cases hle : HL.el zs k ≤ HL.el zs (k - 1)
              · have HLE := Lib.hid hle
                have hbl : decide (HL.el zs k ≤ HL.el zs (k - 1)) = true := by simpa using hle
                clear hid hcell1 hk0 hle
                generalize hx : HL.el zs k = x at *
                generalize hy : HL.el zs (k - 1) = y at *
                have HX := Lib.hid hx
                have HY := Lib.hid hy
                clear hx hy
                go_wp2_with fail
                refine (HI.out _).mono ?_
                rintro e w1 ⟨rfl, rfl⟩
                go_wp2
                go_ret
                refine ⟨false, m, rfl, ⟨fun h => (by cases h), fun h => ?_⟩, rfl⟩
                have := (h.2.2 k (by have := HLN.out; omega)).2 (by have := HK0.out; omega)
                rw [HX.out, HY.out] at this
                have := HLE.out
                omega
              · have HLE := Lib.hid hle
                have hbl : decide (HL.el zs k ≤ HL.el zs (k - 1)) = false := by simpa using hle
                clear hid hcell1 hk0 hle
                generalize hx : HL.el zs k = x at *
                generalize hy : HL.el zs (k - 1) = y at *
                have HX := Lib.hid hx
                have HY := Lib.hid hy
                clear hx hy
                go_wp2_with fail
                refine (HI.out _).mono ?_
                rintro e w1 ⟨rfl, rfl⟩
                go_wp2
                go_roundw
                case rel => exact ⟨k + 1, by omega, by go_num, CL.goodTo_succ HG.out (by rw [HX.out]; exact HID.out) (fun _ => by rw [HX.out, HY.out]; have := HLE.out; omega), m, rfl⟩
                case measure => simp [intOf]; omega
          · have hid' : CL.isId (HL.el zs k) = false := by simpa using hid
            rw [hid'] at HI
            have HID := Lib.hid hid'
            clear hid hid' hcell1
            generalize hx : HL.el zs k = x at *
            have HX := Lib.hid hx; clear hx
            go_wp2_with fail
            refine (HI.out _).mono ?_
            rintro e w1 ⟨rfl, rfl⟩
            go_wp2
            go_ret
            refine ⟨false, m, rfl, ⟨fun h => (by cases h), fun h => ?_⟩, rfl⟩
            have := (h.2.2 k (by have := HLN.out; omega)).1
            rw [HX.out, HID.out] at this
            cases this
        · go_wp2
          go_ret
          have hkn : k = n := by omega
          refine ⟨true, m, rfl, ⟨fun _ => ⟨by have := HLN.out; omega, by have := HLN.out; omega, ?_⟩, fun _ => rfl⟩, rfl⟩
          rw [HLN.out, ← hkn]
          exact HG.out
end Go.Proofs.YtaodldagmmephaaGreat

