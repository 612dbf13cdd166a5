/- Merged texts: LgR LgG LgH LgI LgJ LgK LgL LgM LgN GGrow. -/
import Derived.RangeFuncNested
import Derived.RangeFuncBound
import Derived.RangeFuncCalls
import Derived.RangeFuncLeaves
import Derived.Shelf.Abstract
import Derived.Shelf.RegionOpen
import Derived.WalkKit
import Derived.OwnWalkIn
import Derived.TacticsInMore
import Derived.LoopNIn
import Derived.LoopIn
import Derived.Test.YtaodldagmmephaaGreatA3
import Derived.Deep.LoopGhost
import Derived.Test.YtaodldagmmephaaGreatA1
import Derived.ArgAppend
/- rlog: slices.Backward over entries; Members. -/
namespace Go.Proofs.YtaodldagmmephaaGreat
open Go.RowKit Go.Shelf
attribute [local go_sem] Oper.semAt_some

/-- What has come when k rounds are over. -/
def backN (n : Nat) (l : List En) (k : Nat) : List (Int × En) := (List.range k).map fun j => (((n - 1 - j : Nat) : Int), HL.el l (n - 1 - j))
theorem backN_succ (n : Nat) (l : List En) (k : Nat) : backN n l (k + 1) = backN n l k ++ [(((n - 1 - k : Nat) : Int), HL.el l (n - 1 - k))] := by simp [backN, List.range_succ]
theorem backN_length (n : Nat) (l : List En) (k : Nat) : (backN n l k).length = k := by simp [backN]
theorem backN_prefix (n : Nat) (l : List En) {k : Nat} (hk : k ≤ n) : backN n l k <+: backN n l n := by
  refine ⟨((List.range n).drop k).map fun j => (((n - 1 - j : Nat) : Int), HL.el l (n - 1 - j)), ?_⟩
  unfold backN
  rw [← List.map_append]
  congr 1
  have h : List.range k = (List.range n).take k := by
    rw [List.take_range, Nat.min_eq_left hk]
  rw [h, List.take_append_drop]
theorem backN_snd (l : List En) : (backN l.length l l.length).map (·.2) = l.reverse := by
  apply List.ext_getElem
  · simp [backN]
  · intro i h1 h2
    have hi : i < l.length := by simpa using h2
    have h3 : l.length - 1 - i < l.length := by omega
    simp [backN, HL.el, List.getElem?_eq_getElem h3]

/-- An entry with its place, its bytes not too many. -/
abbrev IE := { x : Int × En // x.2.da.size ≤ 2000000 }
theorem ie_list : ∀ (L : List (Int × En)), (∀ x, x ∈ L → x.2.da.size ≤ 2000000) → ∃ ys : List IE, ys.map (·.1) = L
  | [], _ => ⟨[], rfl⟩
  | x :: L, h => by
    obtain ⟨ys, hy⟩ := ie_list L (fun y hy => h y (List.mem_cons_of_mem _ hy))
    exact ⟨⟨x, h x List.mem_cons_self⟩ :: ys, by rw [List.map_cons, hy]⟩

set_option maxHeartbeats 2000000 in
set_option maxRecDepth 100000 in
theorem back1_in (n : Nat) (hn : 1 ≤ n) (l Bs n0 len cap : Nat) (p : Option Addr) (zs : List En) (ys : List IE) (hys : ys.map (·.1) = backN len zs len) (hbig : len ≤ 1000000) (J Jx : List IE → World → Prop)
    (hY : ∀ pre (x : IE) W, J pre W → pre.length < len → YieldAt Fence.wide (n - 1) Tryz.prog l #[.int .i64 x.1.1, env x.1.2] W fun e W' =>
      (e = .returned (.bool true) ∧ J (pre ++ [x]) W' ∧ Below n0 W W') ∨ (e = .returned (.bool false) ∧ Jx (pre ++ [x]) W'))
    (W : World) (hBn : Bs < n0) (hBs : W.cell? ⟨Bs, 0, none⟩ = some (.slice p len cap)) (hR : RdG ecells W n0 p len zs) (h0 : J [] W) :
    CallsIn Fence.wide n Tryz.prog 138 #[.func (.yield l) #[] #[], .pointer (some ⟨Bs, 0, none⟩)] W fun e W' => (∃ v, e = .returned v) ∧
      ((∃ xs, xs = ys ∧ J xs W') ∨ (∃ pre, pre <+: ys ∧ Jx pre W')) := by
  have HR := Lib.hid hR
  have HZ := Lib.hid hR.1
  have HBs := Lib.hid hBs
  have hyl : ys.length = len := by rw [← List.length_map (·.1), hys, backN_length]
  have HYL := Lib.hid hyl
  have HYK : Hid (∀ k (h : k < ys.length), ys[k].1 = (((len - 1 - k : Nat) : Int), HL.el zs (len - 1 - k))) := Lib.hid (fun k h => by
    have e : (ys.map (·.1))[k]? = some ys[k].1 := by rw [List.getElem?_map, List.getElem?_eq_getElem h]; rfl
    rw [hys] at e
    unfold backN at e
    rw [List.getElem?_map, List.getElem?_range (by omega)] at e
    exact (Option.some.inj e).symm)
  clear hR hyl hys
  refine callsIn_of_wp Tryz.func138 rfl trivial ?_ rfl
  simp only [Tryz.ntmps138, List.size_toArray, List.length_cons, List.length_nil, Nat.reduceAdd, Nat.reduceSub, Array.replicate_succ, Array.replicate_zero, List.push_toArray, List.append_toArray, List.nil_append, List.cons_append]
  gi_wp2
  clear hBs
  gi_loopw [3] (fun i wr => ∃ k : Nat, k ≤ len ∧ i = .int .i64 ((len : Int) - 1 - (k : Int)) ∧ J (ys.take k) wr ∧ Below n0 W wr)
    (fun i _ => (intOf i + 1).toNat)
  case atStart => exact ⟨0, Nat.zero_le _, by simp, h0, Below.refl _ _⟩
  case round =>
    obtain ⟨k, hk, rfl, hJs, hnx⟩ := hrel
    by_cases hlt : k < len
    · have hBs := (hnx.cell (p := ⟨Bs, 0, none⟩) hBn).trans HBs.out
      have hky : k < ys.length := by rw [HYL.out]; exact hlt
      have hyk := HYK.out k hky
      obtain ⟨m, hm⟩ : ∃ m : Nat, m = len - 1 - k := ⟨_, rfl⟩
      have hmi : (len : Int) - 1 - (k : Int) = (m : Int) := by omega
      have hml : m < len := by omega
      rw [← hm] at hyk
      obtain ⟨b, o, hp, hb, x0, x1, x2, x3⟩ := ((HR.out.below hnx).en m hml)
      subst hp
      obtain ⟨fn, tmps, assign, body, hy, hRo⟩ := hY _ ys[k] wr hJs (by rw [List.length_take, HYL.out]; omega)
      have hup : ys.take (k + 1) = ys.take k ++ [ys[k]] := by rw [List.take_add_one, List.getElem?_eq_getElem hky]; rfl
      rw [← hup] at hRo
      have HUP := Lib.hid hup
      clear hup hm
      rw [hmi]
      rw [hyk] at hy
      generalize HL.el zs m = x at *
      obtain ⟨a1, a2, a3, a4⟩ := x
      simp only at x0 x1 x2 x3
      unfold env at hy
      dsimp only at hy
      have hm0 : (0 : Int) ≤ (m : Int) := by omega
      have hmI : (m : Int) < (len : Int) := by omega
      clear hyk HUP
      gi_wp2
      refine hRo.mono ?_
      rintro e W3 (⟨rfl, hJ3, hk3⟩ | ⟨rfl, hJx3⟩)
      · gi_wp2
        go_roundw
        case rel => exact ⟨k + 1, by omega, by congr 1; omega, hJ3, hnx.trans hk3⟩
        case measure => simp [intOf]
      · gi_wp2
        refine bodyPost_ret (results_none rfl _ _ _) rfl ?_
        exact ⟨⟨_, rfl⟩, .inr ⟨_, List.take_prefix _ _, hJx3⟩⟩
    · obtain rfl : k = len := by omega
      have hneg : decide (0 ≤ (k : Int) - 1 - (k : Int)) = false := decide_eq_false (by omega)
      have hall : ys.take k = ys := List.take_of_length_le (by rw [HYL.out]; exact Nat.le_refl _)
      rw [hall] at hJs
      clear hall
      gi_wp2
      go_end0
      exact ⟨⟨_, rfl⟩, .inl ⟨_, rfl, hJs⟩⟩

theorem back_stops (n : Nat) (hn : 1 ≤ n) (Bs n0 len cap : Nat) (p : Option Addr) (zs : List En) (ys : List IE) (hys : ys.map (·.1) = backN len zs len) (hbig : len ≤ 1000000) (w : World) (hBs : Bs < w.heap.size) (hBn : Bs < n0) (hn0 : n0 ≤ w.heap.size)
    (hc : w.cell? ⟨Bs, 0, none⟩ = some (.slice p len cap)) (hR : RdG ecells w n0 p len zs) :
    SeqStopsK Fence.wide n Tryz.prog 138 #[.pointer (some ⟨Bs, 0, none⟩)] (fun x : IE => #[Value.int .i64 x.1.1, env x.1.2]) (Below n0) (fun xs => xs = ys) (fun pre => pre <+: ys) len w :=
  fun l J Jx W hW _ _ hY h0 =>
    back1_in n hn l Bs n0 len cap p zs ys hys hbig J Jx hY W hBn ((hW.cell (p := ⟨Bs, 0, none⟩) hBs).trans hc) (hR.below (hW.mono hn0)) h0

set_option maxRecDepth 100000 in
theorem back_call (p : Option Addr) (len cap : Nat) (w : World) :
    Calls Tryz.prog 125 #[.slice p len cap] w fun e w' => e = .returned (.func (.func 138) #[] #[.pointer (some ⟨w.heap.size, 0, none⟩)]) ∧ w' = w.alloc (.cells #[.slice p len cap] 23) := by
  go_enter Tryz.func125, Tryz.ntmps125
  go_wp2
  go_ret
  exact ⟨rfl, rfl⟩

/-- An entry's block: the loop variable. -/
def EnBox (W : World) (B : Nat) (x : En) : Prop := W.heap[B]? = some (.cells #[.int .i64 x.ix, .int .i64 x.tm, .int .i64 x.kd, .string x.da] 25 (0, 0))
theorem EnBox.lt {W : World} {B : Nat} {x : En} (h : EnBox W B x) : B < W.heap.size := (Array.getElem?_eq_some_iff.1 h).1
theorem EnBox.own {B : Nat} {x : En} : Own (fun (_ : Unit) W => EnBox W B x) := by
  rintro s X Y row hv hg hrow
  refine (hg.block B (EnBox.lt hv) (fun e' => ?_)).trans hv
  obtain ⟨o, ho, hc⟩ := hrow B e'.symm
  rw [show X.heap[B]? = _ from hv] at ho; cases ho; cases hc
theorem EnBox.cells {W : World} {B : Nat} {x : En} (h : EnBox W B x) : W.cell? ⟨B, 0, none⟩ = some (.int .i64 x.ix) ∧ W.cell? ⟨B, 0 + 1, none⟩ = some (.int .i64 x.tm) ∧ W.cell? ⟨B, 0 + 2, none⟩ = some (.int .i64 x.kd) ∧ W.cell? ⟨B, 0 + 3, none⟩ = some (.string x.da) := by
  unfold EnBox at h
  simp [World.cell?, h]

/-- The members that an entry bears. -/
def memOf (to : Int) (e : En) : Option (List Int × Int) := if e.kd = 2 ∧ e.ix ≤ to then (gm e.da).map fun m => (m, e.ix) else none
/-- What the log tells of the members: none: where 0 stands. -/
def lmem (l : List En) (to : Int) : Option (List Int × Int) := l.reverse.findSome? (memOf to)
def lmemV (l : List En) (to : Int) : List Int × Int := (lmem l to).getD ([], 0)
def firstM (to : Int) (pre : List IE) : Option (List Int × Int) := pre.findSome? fun x => memOf to x.1.2
theorem firstM_map (to : Int) (pre : List IE) : firstM to pre = ((pre.map (·.1)).map (·.2)).findSome? (memOf to) := by
  unfold firstM
  rw [List.map_map, List.findSome?_map]
  rfl
def firstV (to : Int) (pre : List IE) : List Int × Int := (firstM to pre).getD ([], 0)
theorem firstM_snoc (to : Int) (pre : List IE) (x : IE) (h : firstM to pre = none) : firstM to (pre ++ [x]) = memOf to x.1.2 := by
  unfold firstM at h ⊢
  rw [List.findSome?_append, h]
  simp
theorem firstM_prefix (to : Int) {pre zs : List IE} (h : pre <+: zs) {y : List Int × Int} (hy : firstM to pre = some y) : firstM to zs = some y := by
  obtain ⟨r, rfl⟩ := h
  unfold firstM at hy ⊢
  rw [List.findSome?_append, hy]
  rfl
theorem keeps_below {W W' : World} (h : Below W.heap.size W W') : KeepsOthers W W' := ⟨h.size, fun k _ hk _ => ((Fr.of_all (S := fun _ => False) h).block k (Array.getElem?_eq_some_iff.1 hk).1 (fun h => h)).trans hk⟩

set_option maxHeartbeats 2000000 in
set_option maxRecDepth 100000 in
theorem lg_members_in (n : Nat) (hn : 6 ≤ n) (xb base : Nat) (b t : Int) (v : Value) (l : List En) (to : Int) (w : World) (h : Lg xb base b t v l w) (hd : ∀ e ∈ l, e.da.size ≤ 2000000) :
    CallsIn Fence.wide n Tryz.prog 105 #[.pointer (some ⟨xb, 0, none⟩), .int .i64 to] w fun e w' => ∃ v', e = .returned (.tuple #[v', .int .i64 (lmemV l to).2]) ∧ w'.ownsRow w.heap.size 3 1 v' (lmemV l to).1.length (rowOf ncells (lmemV l to).1) ∧ Below w.heap.size w w' := by
  have h1 : 1 ≤ n := by omega
  obtain ⟨p, c, hv, hrd, hnil⟩ := h.rd
  have c2 := h.c2
  rw [hv] at c2
  have hfew := h.few
  have hxb : xb < w.heap.size := cell_lt h.c0
  have HBC := Lib.hid (fun W => back_call p l.length c W)
  have HRD := Lib.hid hrd
  obtain ⟨ys, hys⟩ := ie_list (backN l.length l l.length) (fun x hx => by
    unfold backN at hx
    obtain ⟨j, hj, rfl⟩ := List.mem_map.1 hx
    have hj := List.mem_range.1 hj
    have h3 : l.length - 1 - j < l.length := by omega
    refine hd _ ?_
    show HL.el l (l.length - 1 - j) ∈ l
    unfold HL.el
    rw [List.getD_eq_getElem?_getD, List.getElem?_eq_getElem h3]
    exact List.getElem_mem _)
  have HLM : Hid (firstM to ys = lmem l to) := Lib.hid (by
    rw [firstM_map, hys, backN_snd]
    rfl)
  have HB0 : Hid (Below w.heap.size w (((w.alloc (.cells #[.int .i64 to] 3)).alloc (.cells #[.slice none 0 0] 32)).alloc (.cells #[.int .i64 0] 3))) := Lib.hid ((((Below.refl _ w).alloc (Nat.le_refl _) _).alloc (by simp) _).alloc (by simp; omega) _)
  have c3 := (HB0.out.cell (p := ⟨xb, 2, none⟩) hxb).trans c2
  clear h hv hrd hnil hd c2
  refine callsIn_of_wp_marks Tryz.func105 rfl trivial ?_ rfl
  simp only [Tryz.ntmps105, List.size_toArray, List.length_cons, List.length_nil, Nat.reduceAdd, Nat.reduceSub, Array.replicate_succ, Array.replicate_zero, List.push_toArray, List.append_toArray, List.nil_append, List.cons_append]
  gi_wp2_with (refine ⟨trivial, ?_⟩; gi_at_call 125; refine (callsIn_wide.2 (HBC.out _)).mono ?_; rintro e w' ⟨rfl, rfl⟩)
  have hs3 : (((w.alloc (.cells #[.int .i64 to] 3)).alloc (.cells #[.slice none 0 0] 32)).alloc (.cells #[.int .i64 0] 3)).heap.size = w.heap.size + 1 + 1 + 1 := by simp
  have b0 : Boxed (((w.alloc (.cells #[.int .i64 to] 3)).alloc (.cells #[.slice none 0 0] 32)).alloc (.cells #[.int .i64 0] 3)) w.heap.size 3 (.int .i64 to) := ((Boxed.new w 3 _).alloc _).alloc _
  have b1 : Boxed (((w.alloc (.cells #[.int .i64 to] 3)).alloc (.cells #[.slice none 0 0] 32)).alloc (.cells #[.int .i64 0] 3)) (w.heap.size + 1) 32 (.slice none 0 0) := by
    have := (Boxed.new (w.alloc (.cells #[.int .i64 to] 3)) 32 (.slice none 0 0)).alloc (.cells #[.int .i64 0] 3)
    rwa [World.size_alloc] at this
  have b2 : Boxed (((w.alloc (.cells #[.int .i64 to] 3)).alloc (.cells #[.slice none 0 0] 32)).alloc (.cells #[.int .i64 0] 3)) (w.heap.size + 1 + 1) 3 (.int .i64 0) := by
    have := Boxed.new ((w.alloc (.cells #[.int .i64 to] 3)).alloc (.cells #[.slice none 0 0] 32)) 3 (.int .i64 0)
    rwa [World.size_alloc, World.size_alloc] at this
  generalize ((w.alloc (.cells #[.int .i64 to] 3)).alloc (.cells #[.slice none 0 0] 32)).alloc (.cells #[.int .i64 0] 3) = W0 at *
  rw [← hs3]
  have HS3 := Lib.hid hs3
  clear hs3
  have hB4 : Below w.heap.size w (W0.alloc (.cells #[.slice p l.length c] 23)) := HB0.out.alloc HB0.out.size _
  have bs := Boxed.new W0 23 (.slice p l.length c)
  have hR4 : RdG ecells (W0.alloc (.cells #[.slice p l.length c] 23)) (W0.alloc (.cells #[.slice p l.length c] 23)).heap.size p l.length l := (HRD.out.below hB4).more hB4.size
  have b04 := b0.alloc (.cells #[.slice p l.length c] 23)
  have b14 := b1.alloc (.cells #[.slice p l.length c] 23)
  have b24 := b2.alloc (.cells #[.slice p l.length c] 23)
  have hs4 : (W0.alloc (.cells #[.slice p l.length c] 23)).heap.size = W0.heap.size + 1 := by simp
  obtain ⟨Bs, hBs⟩ : ∃ Bs, Bs = W0.heap.size := ⟨_, rfl⟩
  have HS4 : Hid ((W0.alloc (.cells #[.slice p l.length c] 23)).heap.size = w.heap.size + 1 + 1 + 1 + 1 ∧ Bs < (W0.alloc (.cells #[.slice p l.length c] 23)).heap.size) := Lib.hid ⟨by have := HS3.out; omega, by omega⟩
  rw [← hBs] at bs ⊢
  clear b0 b1 b2 c3 hs4 hBs HS3
  generalize W0.alloc (.cells #[.slice p l.length c] 23) = W4 at *
  clear HB0 W0
  refine wpIn_rangeFunc_ownH rfl h1 (gf := 138) (lb := #[.pointer (some ⟨Bs, 0, none⟩)]) rfl trivial (enters_of Tryz.func138 (by kernel_rfl) rfl)
    (back_stops (n - 1) (by omega) Bs W4.heap.size l.length c p l ys hys (by omega) W4 HS4.out.2 HS4.out.2 (Nat.le_refl _) bs.cell hR4) belowK_t (belowK_b (Nat.le_refl _)) (Below.refl _ _) (fun _ => rfl)
    (fun pre W => (((∃ v, Boxed W (w.heap.size + 1) 32 v ∧ W.ownsRow w.heap.size 3 1 v 0 [] ∧ firstM to pre = none) ∧ Boxed W w.heap.size 3 (.int .i64 to)) ∧ Boxed W (w.heap.size + 1 + 1) 3 (.int .i64 0)) ∧ (Below w.heap.size w W ∧ W4.heap.size ≤ W.heap.size))
    (fun c pre W => ((∃ v, Boxed W (w.heap.size + 1) 32 v ∧ W.ownsRow w.heap.size 3 1 v (firstV to pre).1.length (rowOf ncells (firstV to pre).1) ∧ (c = .ret ∧ (firstM to pre).isSome = true)) ∧ Boxed W (w.heap.size + 1 + 1) 3 (.int .i64 (firstV to pre).2)) ∧ Below w.heap.size w W)
    (OwnFrom.and (OwnFrom.and (OwnFrom.and (Own.from (holdsRow_own w.heap.size (w.heap.size + 1) 32 3 1 (fun pre : List IE => 0) (fun pre => []) (fun pre _ => firstM to pre = none)) _) (Own.from (boxed_own w.heap.size 3 (fun _ => .int .i64 to)) _)) (Own.from (boxed_own (w.heap.size + 1 + 1) 3 (fun _ => .int .i64 0)) _)) (OwnFrom.and (ownFrom_below (Nat.le_refl _) (by have := HS4.out.1; omega)) (fun _ _ _ _ hs hg _ => Nat.le_trans hs hg.size)))
    (fun c => OwnFrom.and (OwnFrom.and (Own.from (holdsRow_own w.heap.size (w.heap.size + 1) 32 3 1 (fun pre : List IE => (firstV to pre).1.length) (fun pre => rowOf ncells (firstV to pre).1) (fun pre _ => c = .ret ∧ (firstM to pre).isSome = true)) _) (Own.from (boxed_own (w.heap.size + 1 + 1) 3 (fun pre => .int .i64 (firstV to pre).2)) _)) (ownFrom_below (Nat.le_refl _) (by have := HS4.out.1; omega)))
    ⟨⟨⟨⟨_, b14, World.ownsRow_nil _ _ _ _, rfl⟩, b04⟩, b24⟩, hB4, Nat.le_refl _⟩
    (fun x a' W => ∃ Bx, w.heap.size + 3 < Bx ∧ EnBox W Bx x.1.2 ∧ ∃ u6 u8 u9, a' = { tmps := #[.pointer (some ⟨xb, 0, none⟩), .int .i64 to, undef, .pointer (some ⟨w.heap.size, 0, none⟩), .pointer (some ⟨w.heap.size + 1, 0, none⟩), .pointer (some ⟨w.heap.size + 1 + 1, 0, none⟩), u6, .pointer (some ⟨Bx, 0, none⟩), u8, u9, .pointer (some ⟨xb, 0, none⟩), .bool false, .pointer (some ⟨xb, 0, none⟩), .pointer (some ⟨xb, 0, none⟩), .pointer (some ⟨xb, 2, none⟩), .slice p l.length c, .func (.func 138) #[] #[.pointer (some ⟨Bs, 0, none⟩)], .int .i64 x.1.1, env x.1.2, undef, undef, undef, undef, undef, undef, undef, undef, undef, undef, undef, undef, undef, undef, undef, undef, undef, undef, undef, undef], defers := [] })
    (fun x a' _ X Y row hs hg hr => by obtain ⟨Bx, h1, h2, h3⟩ := hs; exact ⟨Bx, h1, EnBox.own () X Y row h2 hg (fun r e => (hr r e).2), h3⟩)
    ?assign ?body ?done ?stop
  case assign =>
    rintro l' pre ⟨⟨xi, a1, a2, a3, a4⟩, hda⟩ W K ⟨⟨⟨⟨v, hv, hrow, hfn⟩, hb0⟩, hb2⟩, hB, hsz⟩ hK
    have HK := Lib.hid hK
    clear hK
    dsimp only [env]
    gi_wp2
    exact HK.out _ _ ((KeepsOthers.alloc _ _).from _) ((Below.refl _ W).alloc hsz _) ⟨⟨⟨⟨v, hv.alloc _, hrow.alloc _, hfn⟩, hb0.alloc _⟩, hb2.alloc _⟩, hB.alloc hB.size _, by simp; omega⟩ ⟨W.heap.size, by have := HS4.out.1; omega, World.alloc_heap_new W _, _, _, _, rfl⟩
  case body =>
    rintro l' pre ⟨⟨xi, a1, a2, a3, a4⟩, hda⟩ a' W hl ⟨r, hr⟩ ⟨⟨⟨⟨v, hv, hrow, hfn⟩, hb0⟩, hb2⟩, hB, hsz⟩ ⟨Bx, hBx, bX, u6, u8, u9, rfl⟩ hlt
    have hc0 := hb0.cell
    have hc1 := hv.cell
    have hc2 := hb2.cell
    have hf1 := hv.frozen
    have hf2 := hb2.frozen
    obtain ⟨x0, x1, x2, x3⟩ := bX.cells
    dsimp only at x0 x1 x2 x3 hda
    dsimp only [env]
    have HFS := Lib.hid (firstM_snoc to pre ⟨(xi, ⟨a1, a2, a3, a4⟩), hda⟩ hfn)
    have HI : Hid (∀ W', Below W.heap.size W W' → firstM to (pre ++ [⟨(xi, ⟨a1, a2, a3, a4⟩), hda⟩]) = none → KeepsFrom W4.heap.size W W' ∧ Below W4.heap.size W W' ∧ (((∃ v, Boxed W' (w.heap.size + 1) 32 v ∧ W'.ownsRow w.heap.size 3 1 v 0 [] ∧ firstM to (pre ++ [⟨(xi, ⟨a1, a2, a3, a4⟩), hda⟩]) = none) ∧ Boxed W' w.heap.size 3 (.int .i64 to)) ∧ Boxed W' (w.heap.size + 1 + 1) 3 (.int .i64 0)) ∧ (Below w.heap.size w W' ∧ W4.heap.size ≤ W'.heap.size)) := Lib.hid (fun W' hb hn => by
      have hbl : ∀ k o, W.heap[k]? = some o → W'.heap[k]? = some o := fun k o hk => ((Fr.of_all (S := fun _ => False) hb).block k (Array.getElem?_eq_some_iff.1 hk).1 (fun h => h)).trans hk
      exact ⟨(keeps_below hb).from _, hb.mono hsz, ⟨⟨⟨v, hbl _ _ hv, (Fr.of_all (S := fun _ => False) hb).owns hrow (fun _ _ h => h), hn⟩, hbl _ _ hb0⟩, hbl _ _ hb2⟩, hB.trans (hb.mono hB.size), Nat.le_trans hsz hb.size⟩)
    have hBl := bX.lt
    have HBL : Hid (∀ W', Below W.heap.size W W' → W'.cell? ⟨w.heap.size + 1, 0, none⟩ = some v ∧ W'.cell? ⟨w.heap.size + 1 + 1, 0, none⟩ = some (.int .i64 0) ∧ W'.frozen? ⟨w.heap.size + 1, 0, none⟩ = false ∧ W'.frozen? ⟨w.heap.size + 1 + 1, 0, none⟩ = false) := Lib.hid (fun W' hb => ⟨(hb.cell (p := ⟨w.heap.size + 1, 0, none⟩) hv.lt).trans hc1, (hb.cell (p := ⟨w.heap.size + 1 + 1, 0, none⟩) hb2.lt).trans hc2, (hb.frozen (p := ⟨w.heap.size + 1, 0, none⟩) hv.lt).trans hf1, (hb.frozen (p := ⟨w.heap.size + 1 + 1, 0, none⟩) hb2.lt).trans hf2⟩)
    have HR := Lib.hid hrow
    have HV := Lib.hid (And.intro hv hb2)
    have HBW := Lib.hid (And.intro hB hsz)
    clear hrow hv hb0 hb2 hB hsz hfn hr bX
    by_cases hk : a3 = 2
    · subst hk
      by_cases hi : a1 ≤ to
      · have d2 : decide (to < a1) = false := decide_eq_false (by omega)
        have HG := Lib.hid (get_members a4 W hda)
        have HM : Hid (memOf to ⟨a1, a2, 2, a4⟩ = (gm a4).map fun m => (m, a1)) := Lib.hid (by unfold memOf; rw [if_pos ⟨rfl, hi⟩])
        cases hg : gm a4 with
        | none =>
          rw [hg] at HG HM
          gi_wp2_with (refine ⟨trivial, (fun _ => by omega), ?_⟩; gi_at_call 30; refine (CallsIn.inRound l' (callsIn_wide.2 HG.out)).mono ?_; rintro e w5 ⟨v5, c5, rfl, hb5, hm51, hm52, rfl⟩; have hc5 : (c5 == 0) = false := by (simp; omega))
          exact HI.out _ hb5 (by rw [HFS.out]; exact HM.out)
        | some m =>
          rw [hg] at HG HM
          gi_wp2_with (refine ⟨trivial, (fun _ => by omega), ?_⟩; gi_at_call 30; refine (CallsIn.inRound l' (callsIn_wide.2 HG.out)).mono ?_; rintro e w5 ⟨v5, c5, rfl, hb5, rfl, hm5⟩; obtain ⟨p5, c5', rfl⟩ := owns_slice hm5; have y0 : w5.cell? ⟨Bx, 0, none⟩ = some (.int .i64 a1) := (hb5.cell (p := ⟨Bx, 0, none⟩) hBl).trans x0; have y1 := HBL.out w5 hb5; obtain ⟨y1, y2, y3, y4⟩ := y1; clear x0 x1 x2 x3 hc0 hc1 hc2 hf1 hf2)
          have hmo : Tryz.prog.follows .mixedOrders = true := by kernel_rfl
          have HM5 := Lib.hid (And.intro hb5 hm5)
          clear hm5 hb5
          gi_region_with_o (fail)
          all_goals (
            gi_wp2
            have hbl : ∀ k o, W.heap[k]? = some o → w5.heap[k]? = some o := fun k o hk => ((Fr.of_all (S := fun _ => False) HM5.out.1).block k (Array.getElem?_eq_some_iff.1 hk).1 (fun h => h)).trans hk
            have z1 : Boxed w5 (w.heap.size + 1) 32 v := hbl _ _ HV.out.1
            have z2 : Boxed w5 (w.heap.size + 1 + 1) 3 (.int .i64 0) := hbl _ _ HV.out.2
            have hro := (((Fr.refl (fun k => k < W.heap.size) w5).setCell (p := ⟨w.heap.size + 1, 0, none⟩) (fun _ => HV.out.1.lt) (.slice p5 m.length c5')).setCell (p := ⟨w.heap.size + 1 + 1, 0, none⟩) (fun _ => HV.out.2.lt) (.int .i64 a1)).owns HM5.out.2 (fun g hg => by have := (HM5.out.2.lt g hg).1; omega)
            refine ⟨(((keeps_below HM5.out.1).trans (KeepsOthers.setCell _ ⟨w.heap.size + 1, 0, none⟩ (.slice p5 m.length c5'))).trans ((KeepsOthers.setCell _ ⟨w.heap.size + 1 + 1, 0, none⟩ (.int .i64 a1)).trans (KeepsOthers.drew _))).from _, ⟨⟨_, (z1.set _).other (by omega) _, owns_lowE ?_ HBW.out.1.size, rfl, ?_⟩, ?_⟩, ?_⟩
            · unfold firstV; rw [HFS.out, HM.out]; exact hro
            · rw [HFS.out, HM.out]; rfl
            · unfold firstV; rw [HFS.out, HM.out]; exact (z2.other (by omega) _).set _
            · exact (((HBW.out.1.trans (HM5.out.1.mono HBW.out.1.size)).setCell (p := ⟨w.heap.size + 1, 0, none⟩) (by show _ ≤ _ + 1; omega) _).setCell (p := ⟨w.heap.size + 1 + 1, 0, none⟩) (by show _ ≤ _ + 1 + 1; omega) _).drew)
      · have d2 : decide (to < a1) = true := decide_eq_true (by omega)
        have HN : Hid (memOf to ⟨a1, a2, 2, a4⟩ = none) := Lib.hid (by unfold memOf; rw [if_neg (fun h => hi h.2)])
        gi_wp2
        exact HI.out _ (Below.refl _ _) (by rw [HFS.out]; exact HN.out)
    · have d1 : (a3 != 2) = true := by simp [hk]
      have HN : Hid (memOf to ⟨a1, a2, a3, a4⟩ = none) := Lib.hid (by unfold memOf; rw [if_neg (fun h => hk h.1)])
      gi_wp2
      exact HI.out _ (Below.refl _ _) (by rw [HFS.out]; exact HN.out)
  case done =>
    rintro D xs W hD rfl ⟨⟨⟨⟨v, hv, hrow, hfn⟩, hb0⟩, hb2⟩, hB, hsz⟩ hK
    have hc1 := hv.cell
    have hc2 := hb2.cell
    have hf1 := hv.frozen
    have hf2 := hb2.frozen
    have hlen0 : lmemV l to = ([], 0) := by unfold lmemV; rw [← HLM.out, hfn]; rfl
    gi_wp2
    rw [hlen0]
    have hK' := ((KeepsOthers.setCell W ⟨w.heap.size + 1, 0, none⟩ (.slice none 0 0)).trans (KeepsOthers.setCell _ ⟨w.heap.size + 1 + 1, 0, none⟩ (.int .i64 0))).same D _ hK rfl
    refine ⟨by simp, .inl ⟨_, _, rfl, run_takeDeferred hK', ?_⟩⟩
    have e1 := ((hv.set (.slice none 0 0)).other (show w.heap.size + 1 ≠ w.heap.size + 1 + 1 by omega) (.int .i64 0)).cell
    have e2 := ((hb2.other (show w.heap.size + 1 + 1 ≠ w.heap.size + 1 by omega) (.slice none 0 0)).set (.int .i64 0)).cell
    have hc5 := cell_kept e1 (grownBy_putObj' _ D (.deferred none)) (fun r e => by cases e; exact ⟨_, hK', rfl⟩)
    have hc6 := cell_kept e2 (grownBy_putObj' _ D (.deferred none)) (fun r e => by cases e; exact ⟨_, hK', rfl⟩)
    refine ⟨.tuple #[.slice none 0 0, .int .i64 0], by simp [results, Tryz.f105, go_sem, hc5, hc6], _, rfl, World.ownsRow_nil _ _ _ _, ?_⟩
    exact ((hB.setCell (p := ⟨w.heap.size + 1, 0, none⟩) (by show _ ≤ _ + 1; omega) _).setCell (p := ⟨w.heap.size + 1 + 1, 0, none⟩) (by show _ ≤ _ + 1 + 1; omega) _).trans (belowK_b (w := w) (Nat.le_refl _) _ D _ _ (by have := HS4.out.1; omega) hK' rfl rfl)
  case stop =>
    rintro D c' pre W hD hpre ⟨⟨⟨v, hv, hrow, rfl, hsome⟩, hb2⟩, hB⟩ hK
    obtain ⟨y, hy⟩ := Option.isSome_iff_exists.1 hsome
    have hLV : lmemV l to = firstV to pre := by unfold lmemV firstV; rw [← HLM.out, firstM_prefix to hpre hy, hy]
    gi_wp2
    rw [hLV]
    refine ⟨by simp, .inl ⟨_, _, rfl, run_takeDeferred hK, ?_⟩⟩
    have hc5 := cell_kept hv.cell (grownBy_putObj' _ D (.deferred none)) (fun r e => by cases e; exact ⟨_, hK, rfl⟩)
    have hc6 := cell_kept hb2.cell (grownBy_putObj' _ D (.deferred none)) (fun r e => by cases e; exact ⟨_, hK, rfl⟩)
    refine ⟨.tuple #[v, .int .i64 (firstV to pre).2], by simp [results, Tryz.f105, go_sem, hc5, hc6], v, rfl, ownsRow_putObj hrow _ hK rfl, ?_⟩
    exact hB.trans (belowK_b (w := w) (Nat.le_refl _) W D _ _ (by have := HS4.out.1; omega) hK rfl rfl)

theorem lg_members {xb base : Nat} {b t : Int} {v : Value} {l : List En} {w : World} (to : Int) (h : Lg xb base b t v l w) (hd : ∀ e ∈ l, e.da.size ≤ 2000000) :
    Calls Tryz.prog 105 #[.pointer (some ⟨xb, 0, none⟩), .int .i64 to] w fun e w' => ∃ v', e = .returned (.tuple #[v', .int .i64 (lmemV l to).2]) ∧ w'.ownsRow w.heap.size 3 1 v' (lmemV l to).1.length (rowOf ncells (lmemV l to).1) ∧ Below w.heap.size w w' :=
  callsIn_wide.1 (lg_members_in 6 (by omega) xb base b t v l to w h hd)
end Go.Proofs.YtaodldagmmephaaGreat

/- rlog: Compact. -/
namespace Go.Proofs.YtaodldagmmephaaGreat
open Go.RowKit

/-- The base alone is another one. -/
theorem Lg.rebase {xb base : Nat} {b t b' t' : Int} {v : Value} {l : List En} {w : World} (h : Lg xb base b t v l w) (h0 : 0 ≤ b') (h1 : b' ≤ 4611686018427387904) :
    Lg xb base b' t' v l ((w.setCell ⟨xb, 0, none⟩ (.int .i64 b')).setCell ⟨xb, 1, none⟩ (.int .i64 t')) ∧ Fr (fun k => k = xb) w ((w.setCell ⟨xb, 0, none⟩ (.int .i64 b')).setCell ⟨xb, 1, none⟩ (.int .i64 t')) := by
  have ne : ∀ (W : World) (i j : Nat) (u : Value), i ≠ j → (W.setCell ⟨xb, i, none⟩ u).cell? ⟨xb, j, none⟩ = W.cell? ⟨xb, j, none⟩ := fun W i j u hij => World.cell?_setCell_other _ _ _ _ (by intro e; injection e with _ e _; omega)
  have hS : Fr (fun k => k = xb) w ((w.setCell ⟨xb, 0, none⟩ (.int .i64 b')).setCell ⟨xb, 1, none⟩ (.int .i64 t')) := ((Fr.refl (fun k => k = xb) w).setCell (p := ⟨xb, 0, none⟩) (fun _ => rfl) _).setCell (p := ⟨xb, 1, none⟩) (fun _ => rfl) _
  refine ⟨⟨?_, ?_, ?_, ?_, ?_, ?_, hS.owns h.ow (fun g hg e => h.ne (by rw [hg, e])), h.ne, Nat.le_trans h.bs hS.size, h.bb, h0, h1, h.few⟩, hS⟩
  · rw [ne _ 1 0 _ (by omega)]; exact cell_set_same _ _ _ _ h.c0
  · exact cell_set_same _ _ _ _ (by rw [ne _ 0 1 _ (by omega)]; exact h.c1)
  · rw [ne _ 1 2 _ (by omega), ne _ 0 2 _ (by omega)]; exact h.c2
  · rw [frozen_set, frozen_set]; exact h.f0
  · rw [frozen_set, frozen_set]; exact h.f1
  · rw [frozen_set, frozen_set]; exact h.f2

set_option maxHeartbeats 2000000 in
set_option maxRecDepth 100000 in
/-- Compact, where the log has the place (in). -/
theorem lg_compact_in {xb base : Nat} {b t tt : Int} {v : Value} {l : List En} {w : World} (to : Int) (k : Nat) (h : Lg xb base b t v l w) (hk : to = b + (k : Int)) (hkl : k ≤ l.length) (ht : termS b t l to = some tt) (hla : to ≤ (lastS b t l).1) (hto : to ≤ 4611686018427387904) (g c : Nat) (hv : v = .slice (some ⟨g, 0, none⟩) l.length c) (hkc : k < c) :
    Calls Tryz.prog 48 #[.pointer (some ⟨xb, 0, none⟩), .int .i64 to] w fun e w' => e = .returned (.bool true) ∧ ∃ v', Lg xb base to tt v' (l.drop k) w' ∧ Fr (fun k => k = xb) w w' ∧ ∀ g, v'.ownBlock = some g → w.heap.size ≤ g := by
  have HLS := Lib.hid (lg_last h)
  have HT := Lib.hid ht
  have H := Lib.hid h
  have hxb : xb < w.heap.size := cell_lt h.c0
  have hfew := h.few
  have hlo := h.lo
  have hhi := h.hi
  have hlab : ¬ (lastS b t l).1 < to := by omega
  generalize lastS b t l = la at *
  obtain ⟨x, xt⟩ := la
  simp only at HLS hlab
  have HTB := Lib.hid (show (0 : Int) ≤ to by omega)
  have HTI := Lib.hid hto
  have hkc2 : k < c := hkc
  have q0 : ∀ q : Later w, q.1.cell? ⟨xb, 0, none⟩ = some (.int .i64 b) := fun q => (h.below q.2).c0
  have q2 : ∀ q : Later w, q.1.cell? ⟨xb, 2, none⟩ = some (.slice (some ⟨g, 0, none⟩) l.length c) := fun q => (h.below q.2).c2.trans (by rw [hv])
  have hw1 : IntKind.i64.wrap (to - b) = (k : Int) := by rw [show to - b = (k : Int) by omega]; exact IntWalk.i64_in _ (by omega)
  have HK := Lib.hid hk
  have HCL : Hid (∀ W, Below w.heap.size w W → Calls Tryz.prog 92 #[.slice (some ⟨g, k * 4, none⟩) (l.length - k) (c - k)] W fun e w' => ∃ v', e = .returned v' ∧ w'.ownsRow W.heap.size 25 4 v' (l.length - k) (rowOf ecells (l.drop k)) ∧ Below W.heap.size W w') := Lib.hid (fun W hW => by
    have ho := h.ow
    rw [hv] at ho
    have hr := (RdG.of_own (f := ecells) ho rfl).drops ecells_length (k := k) hkl
    rw [Nat.zero_add] at hr
    exact clone_ens _ _ _ _ W ((hr.below hW).more hW.size) (.inl ⟨_, _, rfl⟩) (by omega))
  have HLN : Hid ((l.drop k).length = l.length - k) := Lib.hid List.length_drop
  clear h hk ht hla hto hv
  go_enter Tryz.func48, Tryz.ntmps48
  go_wp2_with fail
  with_reducible refine HLS.out.mono ?_
  rintro e w1 ⟨rfl, hb1⟩
  have HB1 := Lib.hid hb1
  have htm1 := lg_term to (H.out.below hb1) (by have := HTI.out; omega)
  rw [HT.out] at htm1
  have HTM1 : Hid (Calls Tryz.prog 91 #[.pointer (some ⟨xb, 0, none⟩), .int .i64 to] w1 fun e w' => e = .returned (.tuple #[.int .i64 tt, .bool true]) ∧ Below w1.heap.size w1 w') := Lib.hid htm1
  clear hb1 htm1 HLS
  go_wp2_with fail
  with_reducible refine HTM1.out.mono ?_
  rintro e w2 ⟨rfl, hb2⟩
  have HB2 : Hid (Below w.heap.size w w2) := Lib.hid (HB1.out.trans (hb2.mono HB1.out.size))
  clear hb2 HTM1
  have hd1 : decide (x < to) = false := decide_eq_false (by omega)
  go_wp2_with fail
  refine Mix.region_mix (n := 15) (m := 4) (fun V => ∃ q : Later w, V = q.1) [0, 1, 2, 3, 4, 5, 6, 7, 8, 9, 10, 11] (by kernel_rfl) rfl rfl (by kernel_rfl) (by kernel_rfl) ⟨⟨w2.drew, HB2.out.drew⟩, rfl⟩ ?_
  repeat (refine Mix.picks_step rfl ?_; go_big_quiet_step (fail))
  refine Mix.picks_nil ?_
  intro inv
  refine sink_one (i := 12) (by kernel_rfl) rfl (by omega) inv (fun K hK => ?_)
  have HKK := Lib.hid hK
  clear hK
  go_simp
  with_reducible refine (HCL.out _ HB2.out.drew).mono ?_
  rintro e w3 ⟨v3, rfl, ho3, hb3⟩
  have HB3 : Hid (Below w.heap.size w w3) := Lib.hid (HB2.out.drew.trans (hb3.mono HB2.out.size))
  have hlow : ∀ g, v3.ownBlock = some g → w.heap.size ≤ g := fun g hg => Nat.le_trans HB2.out.size (ho3.lt g hg).1
  have hrow := H.out.row (l' := l.drop k) (Fr.of_all (S := fun k => v.ownBlock = some k) HB3.out) (owns_lowE (by rw [HLN.out]; exact ho3) (Nat.le_trans H.out.bs HB2.out.size)) (fun e => by have := hlow xb e; omega) (by rw [HLN.out]; omega)
  have HROW := Lib.hid (hrow.1.rebase (t' := tt) HTB.out HTI.out)
  have HFR := Lib.hid (Fr.trans (Fr.of_all (S := fun k => k = xb) HB3.out) ((Fr.refl (fun k => k = xb) w3).setCell (p := ⟨xb, 2, none⟩) (fun _ => rfl) v3) (fun _ h _ => h))
  have HLOW := Lib.hid hlow
  obtain ⟨p3, c3, hv3⟩ := owns_slice ho3
  subst hv3
  have cq : w3.cell? ⟨xb, 2, none⟩ = some (.slice (some ⟨g, 0, none⟩) l.length c) := q2 ⟨w3, HB3.out⟩
  have fq : w3.frozen? ⟨xb, 2, none⟩ = false := (H.out.below HB3.out).f2
  have HC := Lib.hid (And.intro hrow.1.c0 (And.intro hrow.1.c1 (And.intro hrow.1.f0 hrow.1.f1)))
  clear ho3 hb3 hlow hrow
  refine HKK.out _ _ ⟨⟨_, HB3.out⟩, rfl⟩ ?_
  clear HKK inv
  intro hS inv
  (try simp only [Act.put]); (try simp only [List.setIfInBounds_toArray]); (try simp only [List.set_cons_succ]); (try simp only [List.set_cons_zero])
  refine sink_one (i := 13) (by kernel_rfl) rfl (by omega) inv (fun K hK => ?_)
  have HKK := Lib.hid hK
  clear hK
  go_simp
  refine HKK.out _ _ ⟨⟨_, HB3.out⟩, rfl⟩ ?_
  clear HKK inv
  intro hS inv
  (try simp only [Act.put]); (try simp only [List.setIfInBounds_toArray]); (try simp only [List.set_cons_succ]); (try simp only [List.set_cons_zero])
  refine sink_one (i := 14) (by kernel_rfl) rfl (by omega) inv (fun K hK => ?_)
  have HKK := Lib.hid hK
  clear hK
  go_simp
  refine HKK.out _ _ ⟨⟨_, HB3.out⟩, rfl⟩ ?_
  clear HKK inv
  intro hS inv
  (try simp only [Act.put]); (try simp only [List.setIfInBounds_toArray]); (try simp only [List.set_cons_succ]); (try simp only [List.set_cons_zero])
  refine sink_last (by kernel_rfl) rfl (by kernel_rfl) (fun K hK => ?_)
  have HKK := Lib.hid hK
  clear hK
  go_simp
  refine HKK.out _ _ ⟨rfl, ?_⟩
  clear HKK inv hS q0 q2 cq fq hw1 hd1
  obtain ⟨d0, d1, e0, e1⟩ := HC.out
  generalize w3.setCell ⟨xb, 2, none⟩ (.slice p3 (l.length - k) c3) = W at *
  go_wp2
  go_ret
  exact ⟨rfl, _, HROW.out.1, Fr.trans HFR.out HROW.out.2 (fun _ h _ => h), HLOW.out⟩
end Go.Proofs.YtaodldagmmephaaGreat

/- rlog: Compact, at the row's end and of a nil row. -/
namespace Go.Proofs.YtaodldagmmephaaGreat
open Go.RowKit

set_option maxHeartbeats 2000000 in
set_option maxRecDepth 100000 in
/-- Compact, where the log has the place (at). -/
theorem lg_compact_at {xb base : Nat} {b t tt : Int} {v : Value} {l : List En} {w : World} (to : Int) (k : Nat) (h : Lg xb base b t v l w) (hk : to = b + (k : Int)) (hkl : k ≤ l.length) (ht : termS b t l to = some tt) (hla : to ≤ (lastS b t l).1) (hto : to ≤ 4611686018427387904) (g : Nat) (hv : v = .slice (some ⟨g, 0, none⟩) l.length l.length) (hkc : k = l.length) :
    Calls Tryz.prog 48 #[.pointer (some ⟨xb, 0, none⟩), .int .i64 to] w fun e w' => e = .returned (.bool true) ∧ ∃ v', Lg xb base to tt v' (l.drop k) w' ∧ Fr (fun k => k = xb) w w' ∧ ∀ g, v'.ownBlock = some g → w.heap.size ≤ g := by
  have HLS := Lib.hid (lg_last h)
  have HT := Lib.hid ht
  have H := Lib.hid h
  have hxb : xb < w.heap.size := cell_lt h.c0
  have hfew := h.few
  have hlo := h.lo
  have hhi := h.hi
  have hlab : ¬ (lastS b t l).1 < to := by omega
  generalize lastS b t l = la at *
  obtain ⟨x, xt⟩ := la
  simp only at HLS hlab
  have HTB := Lib.hid (show (0 : Int) ≤ to by omega)
  have HTI := Lib.hid hto
  subst hkc
  have q0 : ∀ q : Later w, q.1.cell? ⟨xb, 0, none⟩ = some (.int .i64 b) := fun q => (h.below q.2).c0
  have q2 : ∀ q : Later w, q.1.cell? ⟨xb, 2, none⟩ = some (.slice (some ⟨g, 0, none⟩) l.length l.length) := fun q => (h.below q.2).c2.trans (by rw [hv])
  have hw1 : IntKind.i64.wrap (to - b) = ((l.length : Nat) : Int) := by rw [show to - b = ((l.length : Nat) : Int) by omega]; exact IntWalk.i64_in _ (by omega)
  have HK := Lib.hid hk
  have HCL : Hid (∀ W, Below w.heap.size w W → Calls Tryz.prog 92 #[.slice (some ⟨g, 0, none⟩) 0 0] W fun e w' => ∃ v', e = .returned v' ∧ w'.ownsRow W.heap.size 25 4 v' 0 (rowOf ecells (l.drop l.length)) ∧ Below W.heap.size W w') := Lib.hid (fun W hW => by
    rw [List.drop_length]
    exact clone_ens _ _ _ _ W ⟨rfl, fun h => absurd h (Nat.lt_irrefl _)⟩ (.inl ⟨_, _, rfl⟩) (by omega))
  have HLN : Hid ((l.drop l.length).length = 0) := Lib.hid (by simp)
  clear h hk ht hla hto hv
  go_enter Tryz.func48, Tryz.ntmps48
  go_wp2_with fail
  with_reducible refine HLS.out.mono ?_
  rintro e w1 ⟨rfl, hb1⟩
  have HB1 := Lib.hid hb1
  have htm1 := lg_term to (H.out.below hb1) (by have := HTI.out; omega)
  rw [HT.out] at htm1
  have HTM1 : Hid (Calls Tryz.prog 91 #[.pointer (some ⟨xb, 0, none⟩), .int .i64 to] w1 fun e w' => e = .returned (.tuple #[.int .i64 tt, .bool true]) ∧ Below w1.heap.size w1 w') := Lib.hid htm1
  clear hb1 htm1 HLS
  go_wp2_with fail
  with_reducible refine HTM1.out.mono ?_
  rintro e w2 ⟨rfl, hb2⟩
  have HB2 : Hid (Below w.heap.size w w2) := Lib.hid (HB1.out.trans (hb2.mono HB1.out.size))
  clear hb2 HTM1
  have hd1 : decide (x < to) = false := decide_eq_false (by omega)
  go_wp2_with fail
  refine Mix.region_mix (n := 15) (m := 4) (fun V => ∃ q : Later w, V = q.1) [0, 1, 2, 3, 4, 5, 6, 7, 8, 9, 10, 11] (by kernel_rfl) rfl rfl (by kernel_rfl) (by kernel_rfl) ⟨⟨w2.drew, HB2.out.drew⟩, rfl⟩ ?_
  repeat (refine Mix.picks_step rfl ?_; go_big_quiet_step (fail))
  refine Mix.picks_nil ?_
  intro inv
  refine sink_one (i := 12) (by kernel_rfl) rfl (by omega) inv (fun K hK => ?_)
  have HKK := Lib.hid hK
  clear hK
  go_simp
  with_reducible refine (HCL.out _ HB2.out.drew).mono ?_
  rintro e w3 ⟨v3, rfl, ho3, hb3⟩
  have HB3 : Hid (Below w.heap.size w w3) := Lib.hid (HB2.out.drew.trans (hb3.mono HB2.out.size))
  have hlow : ∀ g, v3.ownBlock = some g → w.heap.size ≤ g := fun g hg => Nat.le_trans HB2.out.size (ho3.lt g hg).1
  have hrow := H.out.row (l' := l.drop l.length) (Fr.of_all (S := fun k => v.ownBlock = some k) HB3.out) (owns_lowE (by rw [HLN.out]; exact ho3) (Nat.le_trans H.out.bs HB2.out.size)) (fun e => by have := hlow xb e; omega) (by rw [HLN.out]; omega)
  have HROW := Lib.hid (hrow.1.rebase (t' := tt) HTB.out HTI.out)
  have HFR := Lib.hid (Fr.trans (Fr.of_all (S := fun k => k = xb) HB3.out) ((Fr.refl (fun k => k = xb) w3).setCell (p := ⟨xb, 2, none⟩) (fun _ => rfl) v3) (fun _ h _ => h))
  have HLOW := Lib.hid hlow
  obtain ⟨p3, c3, hv3⟩ := owns_slice ho3
  subst hv3
  have cq : w3.cell? ⟨xb, 2, none⟩ = some (.slice (some ⟨g, 0, none⟩) l.length l.length) := q2 ⟨w3, HB3.out⟩
  have fq : w3.frozen? ⟨xb, 2, none⟩ = false := (H.out.below HB3.out).f2
  have HC := Lib.hid (And.intro hrow.1.c0 (And.intro hrow.1.c1 (And.intro hrow.1.f0 hrow.1.f1)))
  clear ho3 hb3 hlow hrow
  refine HKK.out _ _ ⟨⟨_, HB3.out⟩, rfl⟩ ?_
  clear HKK inv
  intro hS inv
  (try simp only [Act.put]); (try simp only [List.setIfInBounds_toArray]); (try simp only [List.set_cons_succ]); (try simp only [List.set_cons_zero])
  refine sink_one (i := 13) (by kernel_rfl) rfl (by omega) inv (fun K hK => ?_)
  have HKK := Lib.hid hK
  clear hK
  go_simp
  refine HKK.out _ _ ⟨⟨_, HB3.out⟩, rfl⟩ ?_
  clear HKK inv
  intro hS inv
  (try simp only [Act.put]); (try simp only [List.setIfInBounds_toArray]); (try simp only [List.set_cons_succ]); (try simp only [List.set_cons_zero])
  refine sink_one (i := 14) (by kernel_rfl) rfl (by omega) inv (fun K hK => ?_)
  have HKK := Lib.hid hK
  clear hK
  go_simp
  refine HKK.out _ _ ⟨⟨_, HB3.out⟩, rfl⟩ ?_
  clear HKK inv
  intro hS inv
  (try simp only [Act.put]); (try simp only [List.setIfInBounds_toArray]); (try simp only [List.set_cons_succ]); (try simp only [List.set_cons_zero])
  refine sink_last (by kernel_rfl) rfl (by kernel_rfl) (fun K hK => ?_)
  have HKK := Lib.hid hK
  clear hK
  go_simp
  refine HKK.out _ _ ⟨rfl, ?_⟩
  clear HKK inv hS q0 q2 cq fq hw1 hd1
  obtain ⟨d0, d1, e0, e1⟩ := HC.out
  generalize w3.setCell ⟨xb, 2, none⟩ (.slice p3 0 c3) = W at *
  go_wp2
  go_ret
  exact ⟨rfl, _, HROW.out.1, Fr.trans HFR.out HROW.out.2 (fun _ h _ => h), HLOW.out⟩
set_option maxHeartbeats 2000000 in
set_option maxRecDepth 100000 in
/-- Compact, where the log has the place (nil). -/
theorem lg_compact_nil {xb base : Nat} {b t tt : Int} {v : Value} {l : List En} {w : World} (to : Int) (k : Nat) (h : Lg xb base b t v l w) (hk : to = b + (k : Int)) (hkl : k ≤ l.length) (ht : termS b t l to = some tt) (hla : to ≤ (lastS b t l).1) (hto : to ≤ 4611686018427387904) (hv : v = .slice none 0 0) (hkc : k = 0) (hl0 : l = []) :
    Calls Tryz.prog 48 #[.pointer (some ⟨xb, 0, none⟩), .int .i64 to] w fun e w' => e = .returned (.bool true) ∧ ∃ v', Lg xb base to tt v' (l.drop k) w' ∧ Fr (fun k => k = xb) w w' ∧ ∀ g, v'.ownBlock = some g → w.heap.size ≤ g := by
  have HLS := Lib.hid (lg_last h)
  have HT := Lib.hid ht
  have H := Lib.hid h
  have hxb : xb < w.heap.size := cell_lt h.c0
  have hfew := h.few
  have hlo := h.lo
  have hhi := h.hi
  have hlab : ¬ (lastS b t l).1 < to := by omega
  generalize lastS b t l = la at *
  obtain ⟨x, xt⟩ := la
  simp only at HLS hlab
  have HTB := Lib.hid (show (0 : Int) ≤ to by omega)
  have HTI := Lib.hid hto
  subst hkc hl0
  have q0 : ∀ q : Later w, q.1.cell? ⟨xb, 0, none⟩ = some (.int .i64 b) := fun q => (h.below q.2).c0
  have q2 : ∀ q : Later w, q.1.cell? ⟨xb, 2, none⟩ = some (.slice none 0 0) := fun q => (h.below q.2).c2.trans (by rw [hv])
  have hw1 : IntKind.i64.wrap (to - b) = (0 : Int) := by rw [show to - b = (0 : Int) by omega]; exact IntWalk.i64_in _ (by omega)
  have HK := Lib.hid hk
  have HCL : Hid (∀ W, Below w.heap.size w W → Calls Tryz.prog 92 #[.slice none 0 0] W fun e w' => ∃ v', e = .returned v' ∧ w'.ownsRow W.heap.size 25 4 v' 0 (rowOf ecells ([] : List En)) ∧ Below W.heap.size W w') := Lib.hid (fun W hW => by
    exact clone_ens _ _ _ _ W ⟨rfl, fun h => absurd h (Nat.lt_irrefl _)⟩ (.inr ⟨rfl, rfl⟩) (by omega))
  have HLN : Hid (([] : List En).length = 0) := Lib.hid (by simp)
  clear h hk ht hla hto hv
  go_enter Tryz.func48, Tryz.ntmps48
  go_wp2_with fail
  with_reducible refine HLS.out.mono ?_
  rintro e w1 ⟨rfl, hb1⟩
  have HB1 := Lib.hid hb1
  have htm1 := lg_term to (H.out.below hb1) (by have := HTI.out; omega)
  rw [HT.out] at htm1
  have HTM1 : Hid (Calls Tryz.prog 91 #[.pointer (some ⟨xb, 0, none⟩), .int .i64 to] w1 fun e w' => e = .returned (.tuple #[.int .i64 tt, .bool true]) ∧ Below w1.heap.size w1 w') := Lib.hid htm1
  clear hb1 htm1 HLS
  go_wp2_with fail
  with_reducible refine HTM1.out.mono ?_
  rintro e w2 ⟨rfl, hb2⟩
  have HB2 : Hid (Below w.heap.size w w2) := Lib.hid (HB1.out.trans (hb2.mono HB1.out.size))
  clear hb2 HTM1
  have hd1 : decide (x < to) = false := decide_eq_false (by omega)
  go_wp2_with fail
  refine Mix.region_mix (n := 15) (m := 4) (fun V => ∃ q : Later w, V = q.1) [0, 1, 2, 3, 4, 5, 6, 7, 8, 9, 10, 11] (by kernel_rfl) rfl rfl (by kernel_rfl) (by kernel_rfl) ⟨⟨w2.drew, HB2.out.drew⟩, rfl⟩ ?_
  repeat (refine Mix.picks_step rfl ?_; go_big_quiet_step (fail))
  refine Mix.picks_nil ?_
  intro inv
  refine sink_one (i := 12) (by kernel_rfl) rfl (by omega) inv (fun K hK => ?_)
  have HKK := Lib.hid hK
  clear hK
  go_simp
  with_reducible refine (HCL.out _ HB2.out.drew).mono ?_
  rintro e w3 ⟨v3, rfl, ho3, hb3⟩
  have HB3 : Hid (Below w.heap.size w w3) := Lib.hid (HB2.out.drew.trans (hb3.mono HB2.out.size))
  have hlow : ∀ g, v3.ownBlock = some g → w.heap.size ≤ g := fun g hg => Nat.le_trans HB2.out.size (ho3.lt g hg).1
  have hrow := H.out.row (l' := []) (Fr.of_all (S := fun k => v.ownBlock = some k) HB3.out) (owns_lowE (by rw [HLN.out]; exact ho3) (Nat.le_trans H.out.bs HB2.out.size)) (fun e => by have := hlow xb e; omega) (by rw [HLN.out]; omega)
  have HROW := Lib.hid (hrow.1.rebase (t' := tt) HTB.out HTI.out)
  have HFR := Lib.hid (Fr.trans (Fr.of_all (S := fun k => k = xb) HB3.out) ((Fr.refl (fun k => k = xb) w3).setCell (p := ⟨xb, 2, none⟩) (fun _ => rfl) v3) (fun _ h _ => h))
  have HLOW := Lib.hid hlow
  obtain ⟨p3, c3, hv3⟩ := owns_slice ho3
  subst hv3
  have cq : w3.cell? ⟨xb, 2, none⟩ = some (.slice none 0 0) := q2 ⟨w3, HB3.out⟩
  have fq : w3.frozen? ⟨xb, 2, none⟩ = false := (H.out.below HB3.out).f2
  have HC := Lib.hid (And.intro hrow.1.c0 (And.intro hrow.1.c1 (And.intro hrow.1.f0 hrow.1.f1)))
  clear ho3 hb3 hlow hrow
  refine HKK.out _ _ ⟨⟨_, HB3.out⟩, rfl⟩ ?_
  clear HKK inv
  intro hS inv
  (try simp only [Act.put]); (try simp only [List.setIfInBounds_toArray]); (try simp only [List.set_cons_succ]); (try simp only [List.set_cons_zero])
  refine sink_one (i := 13) (by kernel_rfl) rfl (by omega) inv (fun K hK => ?_)
  have HKK := Lib.hid hK
  clear hK
  go_simp
  refine HKK.out _ _ ⟨⟨_, HB3.out⟩, rfl⟩ ?_
  clear HKK inv
  intro hS inv
  (try simp only [Act.put]); (try simp only [List.setIfInBounds_toArray]); (try simp only [List.set_cons_succ]); (try simp only [List.set_cons_zero])
  refine sink_one (i := 14) (by kernel_rfl) rfl (by omega) inv (fun K hK => ?_)
  have HKK := Lib.hid hK
  clear hK
  go_simp
  refine HKK.out _ _ ⟨⟨_, HB3.out⟩, rfl⟩ ?_
  clear HKK inv
  intro hS inv
  (try simp only [Act.put]); (try simp only [List.setIfInBounds_toArray]); (try simp only [List.set_cons_succ]); (try simp only [List.set_cons_zero])
  refine sink_last (by kernel_rfl) rfl (by kernel_rfl) (fun K hK => ?_)
  have HKK := Lib.hid hK
  clear hK
  go_simp
  refine HKK.out _ _ ⟨rfl, ?_⟩
  clear HKK inv hS q0 q2 cq fq hw1 hd1
  obtain ⟨d0, d1, e0, e1⟩ := HC.out
  generalize w3.setCell ⟨xb, 2, none⟩ (.slice p3 0 c3) = W at *
  go_wp2
  go_ret
  exact ⟨rfl, _, HROW.out.1, Fr.trans HFR.out HROW.out.2 (fun _ h _ => h), HLOW.out⟩
end Go.Proofs.YtaodldagmmephaaGreat

/- rlog: Compact as a whole. -/
namespace Go.Proofs.YtaodldagmmephaaGreat
open Go.RowKit

/-- What Compact leaves: the new base's term, if it is done. -/
def compS (b t : Int) (l : List En) (to : Int) : Option Int := (termS b t l to).bind fun tt => if to ≤ (lastS b t l).1 then some tt else none

theorem term_place {b t tt : Int} {l : List En} {to : Int} (h : termS b t l to = some tt) : ∃ k : Nat, to = b + (k : Int) ∧ k ≤ l.length := by
  unfold termS at h
  by_cases h1 : to = b
  · exact ⟨0, by omega, Nat.zero_le _⟩
  · rw [if_neg h1] at h
    unfold atS at h
    by_cases h2 : to ≤ b ∨ (l.length : Int) < to - b
    · rw [if_pos h2] at h
      cases h
    · exact ⟨(to - b).toNat, by omega, by omega⟩

set_option maxHeartbeats 1000000 in
set_option maxRecDepth 100000 in
theorem lg_compact_no {xb base : Nat} {b t : Int} {v : Value} {l : List En} {w : World} (to : Int) (h : Lg xb base b t v l w) (hto : to ≤ 4611686018427387904) (hc : compS b t l to = none) :
    Calls Tryz.prog 48 #[.pointer (some ⟨xb, 0, none⟩), .int .i64 to] w fun e w' => e = .returned (.bool false) ∧ Below w.heap.size w w' := by
  have HLS := Lib.hid (lg_last h)
  have H := Lib.hid h
  have HTI := Lib.hid hto
  unfold compS at hc
  cases htm : termS b t l to with
  | none =>
    have HT := Lib.hid htm
    generalize lastS b t l = la at *
    obtain ⟨x, xt⟩ := la
    simp only at HLS
    clear h hc htm hto
    go_enter Tryz.func48, Tryz.ntmps48
    go_wp2_with fail
    with_reducible refine HLS.out.mono ?_
    rintro e w1 ⟨rfl, hb1⟩
    have HB1 := Lib.hid hb1
    have htm1 := lg_term to (H.out.below hb1) (by have := HTI.out; omega)
    rw [HT.out] at htm1
    have HTM1 : Hid (Calls Tryz.prog 91 #[.pointer (some ⟨xb, 0, none⟩), .int .i64 to] w1 fun e w' => e = .returned (.tuple #[.int .i64 0, .bool false]) ∧ Below w1.heap.size w1 w') := Lib.hid htm1
    clear hb1 htm1 HLS
    go_wp2_with fail
    with_reducible refine HTM1.out.mono ?_
    rintro e w2 ⟨rfl, hb2⟩
    have HB2 : Hid (Below w.heap.size w w2) := Lib.hid (HB1.out.trans (hb2.mono HB1.out.size))
    clear hb2 HTM1
    go_wp2
    go_ret
    exact ⟨rfl, HB2.out⟩
  | some tt =>
    have HT := Lib.hid htm
    have hla : ¬ to ≤ (lastS b t l).1 := fun hle => by
      rw [htm] at hc
      simp [hle] at hc
    generalize lastS b t l = la at *
    obtain ⟨x, xt⟩ := la
    simp only at HLS hla
    have hd1 : decide (x < to) = true := decide_eq_true (by omega)
    clear h hc htm hto hla
    go_enter Tryz.func48, Tryz.ntmps48
    go_wp2_with fail
    with_reducible refine HLS.out.mono ?_
    rintro e w1 ⟨rfl, hb1⟩
    have HB1 := Lib.hid hb1
    have htm1 := lg_term to (H.out.below hb1) (by have := HTI.out; omega)
    rw [HT.out] at htm1
    have HTM1 : Hid (Calls Tryz.prog 91 #[.pointer (some ⟨xb, 0, none⟩), .int .i64 to] w1 fun e w' => e = .returned (.tuple #[.int .i64 tt, .bool true]) ∧ Below w1.heap.size w1 w') := Lib.hid htm1
    clear hb1 htm1 HLS
    go_wp2_with fail
    with_reducible refine HTM1.out.mono ?_
    rintro e w2 ⟨rfl, hb2⟩
    have HB2 : Hid (Below w.heap.size w w2) := Lib.hid (HB1.out.trans (hb2.mono HB1.out.size))
    clear hb2 HTM1
    go_wp2
    go_ret
    exact ⟨rfl, HB2.out⟩

/-- Compact, done. -/
theorem lg_compact {xb base : Nat} {b t tt : Int} {v : Value} {l : List En} {w : World} (to : Int) (h : Lg xb base b t v l w) (hto : to ≤ 4611686018427387904) (hc : compS b t l to = some tt) :
    Calls Tryz.prog 48 #[.pointer (some ⟨xb, 0, none⟩), .int .i64 to] w fun e w' => e = .returned (.bool true) ∧ ∃ v', Lg xb base to tt v' (l.drop (to - b).toNat) w' ∧ Fr (fun k => k = xb) w w' ∧ ∀ g, v'.ownBlock = some g → w.heap.size ≤ g := by
  unfold compS at hc
  cases htm : termS b t l to with
  | none => rw [htm] at hc; cases hc
  | some t2 =>
    rw [htm] at hc
    have hla : to ≤ (lastS b t l).1 := by
      apply Classical.byContradiction
      intro hn
      simp [hn] at hc
    have e2 : t2 = tt := by simpa [hla] using hc
    subst e2
    obtain ⟨k, hk, hkl⟩ := term_place htm
    have hkk : (to - b).toNat = k := by omega
    rw [hkk]
    rcases h.ow.2 with ⟨hv, h0⟩ | ⟨g, cap, cur, hv, _, _, hnc, _⟩
    · have hl0 : l = [] := List.eq_nil_of_length_eq_zero h0
      exact lg_compact_nil to k h hk hkl htm hla hto hv (by rw [h0] at hkl; omega) hl0
    · rcases Nat.lt_or_ge k cap with hlt | hge
      · exact lg_compact_in to k h hk hkl htm hla hto g cap hv hlt
      · have hc9 : cap = l.length := by omega
        subst hc9
        exact lg_compact_at to k h hk hkl htm hla hto g hv (by omega)
end Go.Proofs.YtaodldagmmephaaGreat

/- rlog: own, follow. -/
namespace Go.Proofs.YtaodldagmmephaaGreat
open Go.RowKit

theorem set_self {xs : List Value} {j : Nat} {u : Value} (h : xs[j]? = some u) : xs.set j u = xs := by
  have hj := (List.getElem?_eq_some_iff.1 h).1
  have he := (List.getElem?_eq_some_iff.1 h).2
  refine List.ext_getElem (by simp) (fun i h1 h2 => ?_)
  rw [List.getElem_set]
  by_cases e : j = i
  · subst e; rw [if_pos rfl, ← he]
  · rw [if_neg e]

set_option maxHeartbeats 2000000 in
set_option maxRecDepth 100000 in
/-- own: entries of the call's own, the same. -/
theorem own_ens (p : Option Addr) (n c : Nat) (l : List En) (w : World) (h : RdG ecells w w.heap.size p n l) (hp : (∃ b o, p = some ⟨b, o, none⟩) ∨ p = none ∧ c = 0) (hn : n ≤ 100000) (hd : ∀ i, i < n → (HL.el l i).da.size ≤ 2000000) :
    Calls Tryz.prog 88 #[.slice p n c] w fun e w' => ∃ v', e = .returned v' ∧ w'.ownsRow w.heap.size 25 4 v' n (rowOf ecells l) ∧ Below w.heap.size w w' := by
  have HC := Lib.hid (clone_ens p n c l w h hp hn)
  have HZ := Lib.hid h.1
  have HD := Lib.hid hd
  clear h hp hd
  go_enter Tryz.func88, Tryz.ntmps88
  go_wp2_with fail
  with_reducible refine HC.out.mono ?_
  rintro e w1 ⟨v1, rfl, ho, hb⟩
  obtain ⟨q, d, hv⟩ := owns_slice ho
  subst hv
  have HO := Lib.hid ho
  have HB := Lib.hid hb
  clear ho hb HC
  go_wp2
  go_loopg [9] n (fun gk iv wr => ∃ i : Nat, gk = n - i ∧ i ≤ n ∧ iv = .int .i64 i ∧ Hid (wr.ownsRow w.heap.size 25 4 (.slice q n d) n (rowOf ecells l) ∧ Below w.heap.size w wr))
  case atStart => exact ⟨0, by omega, Nat.zero_le _, rfl, Lib.hid ⟨HO.out, HB.out⟩⟩
  case round =>
    clear HO HB
    obtain ⟨i, hgk, hi, rfl, HR⟩ := hrel
    subst hgk
    by_cases hlt : i < n
    · have hltI : (i : Int) < (n : Int) := by omega
      obtain ⟨g, cap, hgv, hg1, hg2, hg3⟩ := owns_len HR.out.1 (by omega)
      injection hgv with hgv _ hgc
      subst hgv hgc
      have hcell : (rowOf ecells l)[i * 4 + 3]? = some (.string (HL.el l i).da) := (rowOf_at ecells ecells_length l i 3 (by rw [HZ.out]; exact hlt) (by omega)).trans rfl
      have hlen4 : (rowOf ecells l).length = n * 4 := by rw [rowOf_length ecells ecells_length, HZ.out]
      have d3 : wr.cell? ⟨g, i * 4 + 3, none⟩ = some (.string (HL.el l i).da) := (HR.out.1.cellAt (i * 4 + 3) (by omega)).trans hcell
      have e3 : wr.frozen? ⟨g, i * 4 + 3, none⟩ = false := HR.out.1.frozenAt (i * 4 + 3)
      have HCS := Lib.hid (fun w => clone_str (HL.el l i).da w (HD.out i hlt))
      have HSET : Hid ((rowOf ecells l).set (i * 4 + 3) (.string (HL.el l i).da) = rowOf ecells l) := Lib.hid (set_self hcell)
      generalize (HL.el l i).da = s at *
      have hg2' := hg2
      clear hcell hlen4
      go_wp2_with fail
      with_reducible refine (HCS.out _).mono ?_
      rintro e w3 ⟨rfl, hb3⟩
      have hO3 := (Fr.of_all (S := fun _ => False) hb3).owns HR.out.1 (fun _ _ h => h)
      have HO3 := Lib.hid ((hO3.stored (i * 4 + 3) (.string s)).1)
      have HB3 : Hid (Below w.heap.size w (w3.setCell ⟨g, i * 4 + 3, none⟩ (.string s))) := Lib.hid ((HR.out.2.trans (hb3.mono HR.out.2.size)).setCell (p := ⟨g, i * 4 + 3, none⟩) hg1 _)
      have d3' : w3.cell? ⟨g, i * 4 + 3, none⟩ = some (.string s) := (hb3.cell (p := ⟨g, i * 4 + 3, none⟩) hg2).trans d3
      have e3' : w3.frozen? ⟨g, i * 4 + 3, none⟩ = false := (hb3.frozen (p := ⟨g, i * 4 + 3, none⟩) hg2).trans e3
      have hg4 : g < w3.heap.size := Nat.lt_of_lt_of_le hg2 hb3.size
      clear hb3 hO3 d3 e3
      go_wp2
      go_roundg (n - (i + 1))
      case measure => omega
      case rel => exact ⟨i + 1, rfl, by omega, by go_num, Lib.hid ⟨by rw [← HSET.out]; exact HO3.out, HB3.out⟩⟩
    · obtain rfl : i = n := by omega
      go_wp2
      go_ret
      exact ⟨_, rfl, HR.out.1, HR.out.2⟩
end Go.Proofs.YtaodldagmmephaaGreat

/- rlog: follow. -/
namespace Go.Proofs.YtaodldagmmephaaGreat
open Go.RowKit

/-- Entries follow each other behind a place. -/
def followB : Int → Int → List En → Bool
  | _, _, [] => true
  | i, t, e :: l => decide (e.ix = i + 1) && (decide (t ≤ e.tm) && followB e.ix e.tm l)
theorem followB_drop {i t : Int} {l : List En} {k : Nat} (hk : k < l.length) : followB i t (l.drop k) = (decide ((HL.el l k).ix = i + 1) && (decide (t ≤ (HL.el l k).tm) && followB (HL.el l k).ix (HL.el l k).tm (l.drop (k + 1)))) := by
  have e : l.drop k = HL.el l k :: l.drop (k + 1) := by
    rw [List.drop_eq_getElem_cons hk]
    unfold HL.el
    simp [List.getD, List.getElem?_eq_getElem hk]
  rw [e]
  rfl

set_option maxHeartbeats 2000000 in
set_option maxRecDepth 100000 in
theorem follow_ens (i0 t0 : Int) (p : Option Addr) (n c : Nat) (l : List En) (w : World) (h : RdG ecells w w.heap.size p n l) (h0 : 0 ≤ i0) (h1 : i0 ≤ 4611686018427387904) (hn : n ≤ 100000) :
    Calls Tryz.prog 87 #[.int .i64 i0, .int .i64 t0, .slice p n c] w fun e w' => e = .returned (.bool (followB i0 t0 l)) ∧ Below w.heap.size w w' := by
  have H := Lib.hid h
  have HZ := Lib.hid h.1
  have HF0 : Hid (followB i0 t0 l = followB i0 t0 (l.drop 0)) := Lib.hid rfl
  obtain ⟨ans, hans⟩ : ∃ ans, ans = followB i0 t0 l := ⟨_, rfl⟩
  rw [← hans] at HF0 ⊢
  clear h hans
  go_enter Tryz.func87, Tryz.ntmps87
  go_wp2
  go_loopg [0, 1, 11] n (fun gk iv tv kv wr => ∃ (k : Nat) (t : Int), gk = n - k ∧ k ≤ n ∧ kv = .int .i64 k ∧ iv = .int .i64 (i0 + (k : Int)) ∧ tv = .int .i64 t ∧ Hid (ans = followB (i0 + (k : Int)) t (l.drop k) ∧ Below w.heap.size w wr))
  case atStart => exact ⟨0, t0, by omega, Nat.zero_le _, rfl, by simp, rfl, Lib.hid ⟨by simpa using HF0.out, Below.refl _ _⟩⟩
  case round =>
    clear HF0
    obtain ⟨k, t, hgk, hk, rfl, rfl, rfl, HR⟩ := hrel
    subst hgk
    by_cases hlt : k < n
    · have hltI : (k : Int) < (n : Int) := by omega
      obtain ⟨g, o, hp, hg, x0, x1, x2, x3⟩ := ((H.out.below HR.out.2).more HR.out.2.size).en k hlt
      have HFD := Lib.hid (followB_drop (i := i0 + (k : Int)) (t := t) (l := l) (k := k) (by rw [HZ.out]; exact hlt))
      subst hp
      generalize HL.el l k = x at *
      obtain ⟨a1, a2, a3, a4⟩ := x
      simp only at x0 x1 x2 x3 HFD
      have hw1 : IntKind.i64.wrap (i0 + (k : Int) + 1) = i0 + (k : Int) + 1 := IntWalk.i64_in _ (by omega)
      have HB := Lib.hid HR.out.2
      have hs := HR.out.2.size
      by_cases he : a1 = i0 + (k : Int) + 1
      · have b1 : (a1 != i0 + (k : Int) + 1) = false := by simp [he]
        have HE := Lib.hid he
        clear he
        by_cases ht : t ≤ a2
        · have b2 : decide (a2 < t) = false := decide_eq_false (by omega)
          have HN : Hid (ans = followB (i0 + ((k + 1 : Nat) : Int)) a2 (l.drop (k + 1))) := Lib.hid (by
            rw [HR.out.1, HFD.out, decide_eq_true HE.out, decide_eq_true ht, Bool.true_and, Bool.true_and, HE.out]
            congr 1
            omega)
          have HEN : Hid (∀ V, Below (wr.heap.size + 1) (wr.alloc (.cells #[.int .i64 a1, .int .i64 a2, .int .i64 a3, .string a4] 25)) V → V.cell? ⟨wr.heap.size, 0, none⟩ = some (.int .i64 a1) ∧ V.cell? ⟨wr.heap.size, 1, none⟩ = some (.int .i64 a2)) := Lib.hid (fun V hV => by
            have h := en_new wr a1 a2 a3 a4 V hV
            exact ⟨h.1, h.2.1⟩)
          have HBA : Hid (Below w.heap.size w (wr.alloc (.cells #[.int .i64 a1, .int .i64 a2, .int .i64 a3, .string a4] 25))) := Lib.hid (HB.out.alloc hs _)
          clear ht HFD HR
          go_wp2_with fail
          have r0 : ∀ q : Later (wr.alloc (.cells #[.int .i64 a1, .int .i64 a2, .int .i64 a3, .string a4] 25)), q.1.cell? ⟨wr.heap.size, 0, none⟩ = some (.int .i64 a1) := fun q => (HEN.out _ (q.2.mono (by simp))).1
          have r1 : ∀ q : Later (wr.alloc (.cells #[.int .i64 a1, .int .i64 a2, .int .i64 a3, .string a4] 25)), q.1.cell? ⟨wr.heap.size, 1, none⟩ = some (.int .i64 a2) := fun q => (HEN.out _ (q.2.mono (by simp))).2
          clear x0 x1 x2 x3
          refine wp_region_later (by kernel_rfl) (by kernel_rfl) ?_
          repeat (go_big_quiet_step (fail))
          refine wpQuiet_nil ?_
          intro w4 hw'
          obtain ⟨⟨wq, hq⟩, hw''⟩ := hw'
          have hw4 : w4 = wq := hw''
          clear hw''
          subst hw4
          have HQ : Hid (Below w.heap.size w w4) := Lib.hid (HBA.out.trans (hq.mono HBA.out.size))
          clear r0 r1 hq hw1 b1 b2
          go_wp2
          go_roundg (n - (k + 1))
          case measure => omega
          case rel => exact ⟨k + 1, a2, rfl, by omega, by go_num, by rw [HE.out]; go_num, rfl, Lib.hid ⟨HN.out, HQ.out⟩⟩
        · have b2 : decide (a2 < t) = true := decide_eq_true (by omega)
          have HN : Hid (ans = false) := Lib.hid (by rw [HR.out.1, HFD.out, decide_eq_false ht]; simp)
          clear ht HFD HR
          go_wp2
          go_ret
          exact ⟨by rw [HN.out]; rfl, HB.out.alloc hs _⟩
      · have b1 : (a1 != i0 + (k : Int) + 1) = true := by rw [bne_iff_ne]; exact he
        have HN : Hid (ans = false) := Lib.hid (by rw [HR.out.1, HFD.out, decide_eq_false he]; simp)
        clear he HFD HR
        go_wp2
        go_ret
        exact ⟨by rw [HN.out]; rfl, HB.out.alloc hs _⟩
    · obtain rfl : k = n := by omega
      have HN : Hid (ans = true) := Lib.hid (by
        rw [HR.out.1, List.drop_of_length_le (by rw [HZ.out]; exact Nat.le_refl _)]
        rfl)
      go_wp2
      go_ret
      exact ⟨by rw [HN.out]; rfl, HR.out.2⟩
end Go.Proofs.YtaodldagmmephaaGreat

/- rlog: New. -/
namespace Go.Proofs.YtaodldagmmephaaGreat
open Go.RowKit

def newOk (b t : Int) (l : List En) : Bool := decide (0 ≤ b) && (decide (0 ≤ t) && followB b t l)

set_option maxHeartbeats 1000000 in
set_option maxRecDepth 100000 in
theorem lg_new_no (b t : Int) (p : Option Addr) (n c : Nat) (l : List En) (w : World) (h : RdG ecells w w.heap.size p n l) (h1 : b ≤ 4611686018427387904) (hn : n ≤ 100000) (hno : newOk b t l = false) :
    Calls Tryz.prog 41 #[.int .i64 b, .int .i64 t, .slice p n c] w fun e w' => e = .returned (.tuple #[.pointer none, .int .i64 1]) ∧ Below w.heap.size w w' := by
  unfold newOk at hno
  by_cases hb : b < 0
  · have d1 : decide (b < 0) = true := decide_eq_true hb
    clear hno h hb
    go_enter Tryz.func41, Tryz.ntmps41
    go_wp2
    go_ret2
    exact ⟨rfl, Below.refl _ _⟩
  · have d1 : decide (b < 0) = false := decide_eq_false hb
    by_cases ht : t < 0
    · have d2 : decide (t < 0) = true := decide_eq_true ht
      clear hno h ht hb
      go_enter Tryz.func41, Tryz.ntmps41
      go_wp2
      go_ret2
      exact ⟨rfl, Below.refl _ _⟩
    · have d2 : decide (t < 0) = false := decide_eq_false ht
      have hf : followB b t l = false := by
        rw [decide_eq_true (by omega : 0 ≤ b), decide_eq_true (by omega : 0 ≤ t), Bool.true_and, Bool.true_and] at hno
        exact hno
      have HFO := Lib.hid (follow_ens b t p n c l w h (by omega) h1 hn)
      rw [hf] at HFO
      clear hno h ht hb hf
      go_enter Tryz.func41, Tryz.ntmps41
      go_wp2_with fail
      with_reducible refine HFO.out.mono ?_
      rintro e w1 ⟨rfl, hb1⟩
      have HB1 := Lib.hid hb1
      clear hb1
      go_wp2
      go_ret2
      exact ⟨rfl, HB1.out⟩

set_option maxHeartbeats 1000000 in
set_option maxRecDepth 100000 in
theorem lg_new (b t : Int) (p : Option Addr) (n c : Nat) (l : List En) (w : World) (h : RdG ecells w w.heap.size p n l) (hp : (∃ b o, p = some ⟨b, o, none⟩) ∨ p = none ∧ c = 0) (h1 : b ≤ 4611686018427387904) (hn : n ≤ 10000) (hd : ∀ i, i < n → (HL.el l i).da.size ≤ 2000000) (hok : newOk b t l = true) :
    Calls Tryz.prog 41 #[.int .i64 b, .int .i64 t, .slice p n c] w fun e w' => ∃ xb v, e = .returned (.tuple #[.pointer (some ⟨xb, 0, none⟩), .int .i64 0]) ∧ Lg xb w.heap.size b t v l w' ∧ Below w.heap.size w w' := by
  unfold newOk at hok
  simp only [Bool.and_eq_true, decide_eq_true_eq] at hok
  obtain ⟨hb, ht, hf⟩ := hok
  have d1 : decide (b < 0) = false := decide_eq_false (by omega)
  have d2 : decide (t < 0) = false := decide_eq_false (by omega)
  have HFO := Lib.hid (follow_ens b t p n c l w h hb h1 (by omega))
  rw [hf] at HFO
  have HOW := Lib.hid (fun W (hW : Below w.heap.size w W) => own_ens p n c l W ((h.below hW).more hW.size) hp (by omega) hd)
  have HZ := Lib.hid h.1
  have HBB := Lib.hid (And.intro hb h1)
  clear h hp hd hf hb ht h1
  go_enter Tryz.func41, Tryz.ntmps41
  go_wp2_with fail
  with_reducible refine HFO.out.mono ?_
  rintro e w1 ⟨rfl, hb1⟩
  have HB1 := Lib.hid hb1
  have HO1 := Lib.hid (HOW.out w1 hb1)
  clear hb1 HFO HOW
  go_wp2_with fail
  with_reducible refine HO1.out.mono ?_
  rintro e w2 ⟨v, rfl, ho, hb2⟩
  obtain ⟨p2, c2, hv⟩ := owns_slice ho
  subst hv
  have HB2 : Hid (Below w.heap.size w w2) := Lib.hid (HB1.out.trans (hb2.mono HB1.out.size))
  have hc := heap_alloc_new w2 (.cells #[.int .i64 b, .int .i64 t, .slice p2 n c2] 132)
  have cc : ∀ k u, (#[Value.int .i64 b, .int .i64 t, .slice p2 n c2])[k]? = some u → (w2.alloc (.cells #[.int .i64 b, .int .i64 t, .slice p2 n c2] 132)).cell? ⟨w2.heap.size, k, none⟩ = some u := fun k u hu => by
    rw [cell_of_row _ _ _ _ _ _ hc]; exact hu
  have HL2 : Hid (Lg w2.heap.size w.heap.size b t (.slice p2 n c2) l (w2.alloc (.cells #[.int .i64 b, .int .i64 t, .slice p2 n c2] 132))) := Lib.hid
    ⟨cc 0 _ rfl, cc 1 _ rfl, cc 2 _ rfl, frozen_of_row _ _ _ _ _ hc, frozen_of_row _ _ _ _ _ hc, frozen_of_row _ _ _ _ _ hc, (owns_lowE (by rw [HZ.out]; exact ho) HB1.out.size).alloc _, fun e => by have := (ho.lt _ e).2; omega, by have := HB2.out.size; simp; omega, HB2.out.size, HBB.out.1, HBB.out.2, by rw [HZ.out]; exact hn⟩
  clear ho hb2 hc cc HO1
  go_wp2
  go_ret2
  exact ⟨_, _, rfl, HL2.out, HB2.out.alloc HB2.out.size _⟩
end Go.Proofs.YtaodldagmmephaaGreat

/- rlog: what Merge makes, plain. -/
namespace Go.Proofs.YtaodldagmmephaaGreat
open Go.RowKit

/-- Where the new entries begin (one more than their place; 0: nowhere), or none, where one that is kept would go. -/
def mgo (b t keep : Int) (L : List En) : Nat → Nat → List En → Option Nat
  | _, f, [] => some f
  | i, f, e :: r =>
    if termS b t L e.ix = some e.tm then mgo b t keep L (i + 1) f r
    else if (termS b t L e.ix).isSome ∧ e.ix ≤ keep then none
    else mgo b t keep L (i + 1) (if f = 0 then i + 1 else f) r

theorem mgo_end (b t keep : Int) (L : List En) (f : Nat) (l : List En) (k : Nat) (hk : l.length ≤ k) : mgo b t keep L k f (l.drop k) = some f := by
  rw [List.drop_eq_nil_of_le hk]
  rfl

theorem mgo_drop (b t keep : Int) (L : List En) (f : Nat) (l : List En) (k : Nat) (hk : k < l.length) :
    mgo b t keep L k f (l.drop k) = if termS b t L (HL.el l k).ix = some (HL.el l k).tm then mgo b t keep L (k + 1) f (l.drop (k + 1))
    else if (termS b t L (HL.el l k).ix).isSome ∧ (HL.el l k).ix ≤ keep then none
    else mgo b t keep L (k + 1) (if f = 0 then k + 1 else f) (l.drop (k + 1)) := by
  have e : l.drop k = HL.el l k :: l.drop (k + 1) := by
    rw [List.drop_eq_getElem_cons hk]
    unfold HL.el
    simp [List.getD, List.getElem?_eq_getElem hk]
  rw [e]
  rfl

/-- What Merge answers, and the entries that stand then. -/
def mergeS (b t : Int) (L : List En) (prev term keep : Int) (l : List En) : (Int × Bool) × List En :=
  if termS b t L prev = some term ∧ followB prev term l = true then
    match mgo b t keep L 0 0 l with
    | none => ((0, false), L)
    | some 0 => ((0, true), L)
    | some (f + 1) => (((HL.el l f).ix, true), L.take ((HL.el l f).ix - b - 1).toNat ++ l.drop f)
  else ((0, false), L)

/-- Entries that follow one another stand at their places. -/
theorem follow_ix : ∀ (l : List En) (i t : Int) (k : Nat), followB i t l = true → k < l.length → (HL.el l k).ix = i + (k : Int) + 1
  | [], _, _, k, _, hk => absurd hk (Nat.not_lt_zero k)
  | e :: l, i, t, 0, h, _ => by
    unfold followB at h
    simp only [Bool.and_eq_true, decide_eq_true_eq] at h
    have := h.1
    show e.ix = _
    omega
  | e :: l, i, t, k + 1, h, hk => by
    unfold followB at h
    simp only [Bool.and_eq_true, decide_eq_true_eq] at h
    have h2 := follow_ix l e.ix e.tm k h.2.2 (by simpa using hk)
    have h1 := h.1
    show (HL.el l k).ix = _
    omega

/-- As far as nothing new was met, all stands in the log. -/
theorem term_has {b t tt : Int} {L : List En} {i : Int} (h : termS b t L i = some tt) : b ≤ i ∧ i ≤ b + (L.length : Int) := by
  obtain ⟨k, rfl, hk⟩ := term_place h
  omega
end Go.Proofs.YtaodldagmmephaaGreat

/- rlog: Merge refused at its head. -/
namespace Go.Proofs.YtaodldagmmephaaGreat
open Go.RowKit
section
variable {xb base : Nat} {b t : Int} {v : Value} {L : List En} {w : World}

set_option maxHeartbeats 2000000 in
set_option maxRecDepth 100000 in
theorem lg_merge_no (prev tm keep : Int) (p : Option Addr) (n c : Nat) (l : List En) (h : Lg xb base b t v L w) (hp : prev ≤ 4611686018427387904) (hr : RdG ecells w w.heap.size p n l) (hn : n ≤ 10000) (hno : ¬ (termS b t L prev = some tm ∧ followB prev tm l = true)) :
    Calls Tryz.prog 102 #[.pointer (some ⟨xb, 0, none⟩), .int .i64 prev, .int .i64 tm, .int .i64 keep, .slice p n c] w fun e w' => e = .returned (.tuple #[.int .i64 0, .bool false]) ∧ Below w.heap.size w w' := by
  have HT := Lib.hid (lg_term prev h (by omega))
  cases hq : termS b t L prev with
  | none =>
    rw [hq] at HT
    unfold termV at HT
    dsimp only at HT
    clear h hr hno hq
    go_enter Tryz.func102, Tryz.ntmps102
    go_wp2_with fail
    with_reducible refine HT.out.mono ?_
    rintro e w1 ⟨rfl, hb1⟩
    have HB1 := Lib.hid hb1
    clear hb1
    go_wp2
    go_ret2
    exact ⟨rfl, HB1.out⟩
  | some tt =>
    rw [hq] at HT
    unfold termV at HT
    dsimp only at HT
    by_cases he : tt = tm
    · have hf : followB prev tm l = false := by
        cases hff : followB prev tm l
        · rfl
        · exact absurd ⟨by rw [hq, he], hff⟩ hno
      subst he
      have h0 : 0 ≤ prev := by have := (term_has hq).1; have := h.lo; omega
      have HFO := Lib.hid (fun W (hW : Below w.heap.size w W) => follow_ens prev tt p n c l W ((hr.below hW).more hW.size) h0 hp (by omega))
      rw [hf] at HFO
      clear h hr hno hq hf
      go_enter Tryz.func102, Tryz.ntmps102
      go_wp2_with fail
      with_reducible refine HT.out.mono ?_
      rintro e w1 ⟨rfl, hb1⟩
      have HB1 := Lib.hid hb1
      have HF1 := Lib.hid (HFO.out w1 hb1)
      clear hb1 HFO
      go_wp2_with fail
      with_reducible refine HF1.out.mono ?_
      rintro e w2 ⟨rfl, hb2⟩
      have HB2 : Hid (Below w.heap.size w w2) := Lib.hid (HB1.out.trans (hb2.mono HB1.out.size))
      clear hb2 HF1
      go_wp2
      go_ret2
      exact ⟨rfl, HB2.out⟩
    · have b1 : (tt != tm) = true := by simp [he]
      clear h hr hno hq he
      go_enter Tryz.func102, Tryz.ntmps102
      go_wp2_with fail
      with_reducible refine HT.out.mono ?_
      rintro e w1 ⟨rfl, hb1⟩
      have HB1 := Lib.hid hb1
      clear hb1
      go_wp2
      go_ret2
      exact ⟨rfl, HB1.out⟩
end
end Go.Proofs.YtaodldagmmephaaGreat

/- append onto a slice that has no room, and is not the call's own: a new row. -/
namespace Go.Proofs.YtaodldagmmephaaGreat
open Go.RowKit
section
variable {α : Type} {P : Program} {ts te : TypeId} {f : α → List Value} {size bytes : Nat}
theorem RowT.growsRun (T : RowT P ts te f size bytes) {w : World} (ty : TypeId) {ao : Option Addr} {n cap B0 : Nat} {zs0 : List α} (hR0 : RdG f w B0 ao n zs0) (hnone : ao = none → cap = 0) {p : Option Addr} {m c B : Nat} {zs : List α} (hR : RdG f w B p m zs) (hnc : n ≤ cap) (hm : cap < n + m) (hsm : n + m ≤ 1000000) :
    ∃ v' w', (Builtin.append_ #[ts, ts] ty #[.slice ao n cap, .slice p m c]).run P w = .ok v' w' ∧ w'.ownsRow w.heap.size te size v' (n + m) (rowOf f (zs0 ++ zs)) ∧ w.grownBy w' none := by
  have hb : (n + m) * bytes ≤ 140737488355328 := by
    have h1 := T.byt
    have h2 : (n + m) * bytes ≤ 1000000 * 1000000 := Nat.mul_le_mul hsm h1
    omega
  obtain ⟨b2, o2, hp, _, hc2⟩ := hR.2 (by omega)
  subst hp
  have hl2 : (rowOf f zs).length = m * size := by rw [rowOf_length f T.len, hR.1]
  rw [rowOf_append]
  cases ao with
  | none =>
    have h0 : n = 0 := by have := hnone rfl; omega
    have h1 := hnone rfl
    subst h0 h1
    have : zs0 = [] := List.eq_nil_of_length_eq_zero hR0.1
    subst this
    obtain ⟨v', w', hr, h2, h3, h4⟩ := T.run ty w.heap.size (.slice none 0 0) 0 [] (World.ownsRow_nil w _ te size) hR (c := c) (fun h => by cases h) hsm (Nat.le_refl _)
    exact ⟨v', w', hr, h2, h3⟩
  | some ad =>
    have hl0 : (rowOf f zs0).length = n * size := by rw [rowOf_length f T.len, hR0.1]
    have holds : ∀ j u, (rowOf f zs0)[j]? = some u → w.cell? (ad.add j) = some u := fun j u hu => by
      have hj := (List.getElem?_eq_some_iff.1 hu).1
      have hn0 : 0 < n := by
        rcases Nat.eq_zero_or_pos n with h | h
        · subst h; omega
        · exact h
      obtain ⟨b0, o0, e, _, hc0⟩ := hR0.2 hn0
      injection e with e
      subst e
      rw [add_at]
      exact hc0 j u hu
    obtain ⟨i, z, hi, hz, hs1, hs2, hs3⟩ := T.info
    exact run_append_arg_grows (P := P) w ts ty te i z size bytes T.un hi hz hs1 hs2 hs3 T.pos ad n cap (rowOf f zs0) hl0 holds ⟨b2, o2, none⟩ m c (rowOf f zs) hl2 (fun j u hu => by rw [add_at]; exact hc2 j u hu) hm (by unfold maxLen; omega) hb
/-- The same at a step of a region that draws its order. -/
theorem RowT.growsStep (T : RowT P ts te f size bytes) {ops : Array Oper} {o : Oper} {a : Act} {K : Act → World → Prop} {Q : Exit → Act → World → Prop} {E : Prop} {w : World} (hgd : o.guard = none) (s x : Operand)
    (ho : o.op = .call { callee := .builtin .append, args := #[s, x], argTypes := #[ts, ts] }) {ao : Option Addr} {n cap B0 : Nat} {zs0 : List α} (hs : a.eval s = .slice ao n cap) (hR0 : RdG f w B0 ao n zs0) (hnone : ao = none → cap = 0)
    {p : Option Addr} {m c B : Nat} {zs : List α} (hx : a.eval x = .slice p m c) (hR : RdG f w B p m zs) (hnc : n ≤ cap) (hm : cap < n + m) (hsm : n + m ≤ 1000000)
    (h : ∀ v' w', w'.ownsRow w.heap.size te size v' (n + m) (rowOf f (zs0 ++ zs)) → w.grownBy w' none → K (a.put o.dst v') w') : if Region.wanted o (yielded ops a.tmps) = true then Oper.wp P o a w K Q else E := by
  obtain ⟨v', w', hr, h2, h3⟩ := T.growsRun o.type hR0 hnone hR hnc hm hsm
  have hw : Region.wanted o (yielded ops a.tmps) = true := by simp [Region.wanted, hgd]
  rw [if_pos hw]
  unfold Oper.wp execOp
  simp only [ho, resolve, invoke, builtin, Sem.run_bind, Sem.run_pure, Result.andThen_ok, List.map_toArray, List.map_cons, List.map_nil, hs, hx]
  rw [hr]
  exact h v' w' h2 h3
end
end Go.Proofs.YtaodldagmmephaaGreat

