/- conf: the contracts of Has, Quorum, Norm, Valid and Won. -/
import Derived.Test.YtmfidemkmmbioaaGreatSorted
import Derived.Test.YtmfidemkmmbioaaGreatConfM
import Derived.Shelf.Slices.CompactI
namespace Go.Proofs.YtmfidemkmmbioaaGreat
open Go.RowKit Go.Sort

set_option maxHeartbeats 400000 in
set_option maxRecDepth 100000 in
theorem index_ints (p : Option Addr) (n c B : Nat) (l : List Int) (x : Int) (w : World) (h : RdI w B p n l) (hn : n ≤ 1000000) :
    Calls Tryz.prog 37 #[.slice p n c, .int .i64 x] w fun e w' => w = w' ∧ ((∃ k : Nat, e = .returned (.int .i64 k) ∧ k < n ∧ HL.el l k = x ∧ ∀ j, j < k → HL.el l j ≠ x) ∨ (e = .returned (.int .i64 (-1)) ∧ x ∉ l)) := by
  have hl := h.1
  have HC := Lib.hid h
  have HLN := Lib.hid hl
  clear h hl
  go_enter Tryz.func37, Tryz.ntmps37
  go_wp2
  go_loop [4, 5, 8] (fun _ _ iv => ∃ k : Nat, k ≤ n ∧ iv = .int .i64 k ∧ ∀ j, j < k → HL.el l j ≠ x) (fun _ _ iv => n - (intOf iv).toNat)
  case atStart => exact ⟨0, Nat.zero_le _, rfl, fun j hj => by omega⟩
  case round =>
    obtain ⟨k, hk, rfl, hno⟩ := hrel
    have HN := Lib.hid hno; clear hno
    by_cases hlt : k < n
    · obtain ⟨b, o, hp, _, hcs⟩ := HC.out.2 (by omega)
      have hcell := hcs k hlt
      clear hcs
      subst hp
      by_cases hx : x = HL.el l k
      · have hb : (x == HL.el l k) = true := by rw [beq_iff_eq]; exact hx
        have HX := Lib.hid hx
        clear hx
        generalize hy : HL.el l k = y at *
        have HY := Lib.hid hy; clear hy
        go_wp2
        go_ret
        exact ⟨rfl, .inl ⟨k, rfl, hlt, by rw [HY.out, HX.out], HN.out⟩⟩
      · have hb : (x == HL.el l k) = false := by rw [beq_eq_false_iff_ne]; exact hx
        have HX := Lib.hid hx
        clear hx
        generalize hy : HL.el l k = y at *
        have HY := Lib.hid hy; clear hy
        go_wp2
        go_round
        case rel => exact ⟨k + 1, by omega, by go_num, fun j hj => by
          by_cases e : j = k
          · subst e; rw [HY.out]; exact fun h => HX.out h.symm
          · exact HN.out j (by omega)⟩
        case measure => simp [intOf]; omega
    · go_wp2
      go_ret
      refine ⟨rfl, .inr ⟨rfl, fun hm => ?_⟩⟩
      obtain ⟨j, hj, e⟩ := List.getElem_of_mem hm
      refine HN.out j (by have := HLN.out; omega) ?_
      have := HL.el_eq l j hj
      rw [List.getElem?_eq_getElem hj] at this
      injection this with this
      rw [← this, e]

theorem el_mem {l : List Int} {k : Nat} (h : k < l.length) : HL.el l k ∈ l := by
  have := HL.el_eq l k h
  exact List.mem_of_getElem? this

set_option maxRecDepth 100000 in
theorem contains_ints (p : Option Addr) (n c B : Nat) (l : List Int) (x : Int) (w : World) (h : RdI w B p n l) (hn : n ≤ 1000000) :
    Calls Tryz.prog 36 #[.slice p n c, .int .i64 x] w fun e w' => e = .returned (.bool (decide (x ∈ l))) ∧ w = w' := by
  have HI := Lib.hid (index_ints p n c B l x w h hn)
  have HLN := Lib.hid h.1
  clear h
  go_enter Tryz.func36, Tryz.ntmps36
  go_wp2_with fail
  refine HI.out.mono ?_
  rintro e w1 ⟨rfl, ⟨k, rfl, hk, hx, _⟩ | ⟨rfl, hx⟩⟩
  · have hin : x ∈ l := by rw [← hx]; exact el_mem (by have := HLN.out; omega)
    have hd : decide (x ∈ l) = true := by simpa using hin
    have h0 : decide ((0 : Int) ≤ (k : Int)) = true := by simp
    have HD := Lib.hid hd
    clear hin hd hx
    go_wp2
    go_ret
    exact ⟨by rw [HD.out]; simp, rfl⟩
  · have hd : decide (x ∈ l) = false := by simpa using hx
    have HD := Lib.hid hd
    clear hd hx
    go_wp2
    go_ret
    exact ⟨by rw [HD.out]; rfl, rfl⟩

set_option maxRecDepth 100000 in
theorem has_ints (p : Option Addr) (n c B : Nat) (l : List Int) (x : Int) (w : World) (h : RdI w B p n l) (hn : n ≤ 1000000) :
    Calls Tryz.prog 14 #[.slice p n c, .int .i64 x] w fun e w' => e = .returned (.bool (decide (x ∈ l))) ∧ w = w' := by
  have HI := Lib.hid (contains_ints p n c B l x w h hn)
  clear h
  go_enter Tryz.func14, Tryz.ntmps14
  go_wp2_with fail
  refine HI.out.mono ?_
  rintro e w1 ⟨rfl, rfl⟩
  go_wp2
  go_ret
  exact ⟨rfl, rfl⟩

set_option maxRecDepth 100000 in
theorem quorum_int (n : Nat) (w : World) (hn : n ≤ 1000000) :
    Calls Tryz.prog 16 #[.int .i64 n] w fun e w' => e = .returned (.int .i64 (CL.quo n)) ∧ w = w' := by
  by_cases h : n < 1
  · have e : CL.quo n = 0 := by unfold CL.quo; rw [if_pos h]
    rw [e]
    have h' : n = 0 := by omega
    subst h'
    clear e
    go_enter Tryz.func16, Tryz.ntmps16
    go_wp2
    go_ret
    exact ⟨rfl, rfl⟩
  · have e : ((CL.quo n : Nat) : Int) = (n : Int).tdiv 2 + 1 := by
      unfold CL.quo; rw [if_neg h]
      rw [Int.tdiv_eq_ediv_of_nonneg (by omega)]
      omega
    rw [e]
    have hd : (n : Int).tdiv 2 = ((n / 2 : Nat) : Int) := by rw [Int.tdiv_eq_ediv_of_nonneg (by omega)]; omega
    have h1 : ¬ ((n : Int) < 1) := by omega
    have hw : IntKind.i64.wrap ((n : Int).tdiv 2) = (n : Int).tdiv 2 := IntWalk.i64_in _ ⟨by rw [hd]; omega, by rw [hd]; omega⟩
    have hw2 : IntKind.i64.wrap ((n : Int).tdiv 2 + 1) = (n : Int).tdiv 2 + 1 := IntWalk.i64_in _ ⟨by rw [hd]; omega, by rw [hd]; omega⟩
    clear e hd
    go_enter Tryz.func16, Tryz.ntmps16
    go_wp2
    go_ret
    exact ⟨rfl, rfl⟩

/-- A row that is owned, cut short. -/
theorem owns_cut {w : World} {base g n k cap : Nat} {e : TypeId} {xs : List Value} (h : w.ownsRow base e 1 (.slice (some ⟨g, 0, none⟩) n cap) n xs) (hk : k ≤ n) : w.ownsRow base e 1 (.slice (some ⟨g, 0, none⟩) k cap) k (xs.take k) := by
  have hl := h.1
  refine ⟨by rw [List.length_take]; omega, ?_⟩
  rcases h.2 with ⟨e, _⟩ | ⟨g', c', cur, e, hb, hg, h1, h2, h3, h4⟩
  · cases e
  · injection e with e1 _ e3
    injection e1 with e1
    injection e1 with e1 _
    subst e1 e3
    refine .inr ⟨g, cap, cur, rfl, hb, hg, by omega, h2, h3, ?_⟩
    rw [← h4, List.take_take, Nat.mul_one, Nat.mul_one, Nat.min_eq_left hk]

theorem compact_own (base : Nat) (v : Value) (zs : List Int) (w : World) (hn : zs.length ≤ 1000000) (ho : w.ownsRow base 3 1 v zs.length (rowOf ncells zs)) :
    Calls Tryz.prog 26 #[v] w fun e w' => ∃ q c, e = .returned (.slice q (Lib.compact zs).length c) ∧ w'.ownsRow base 3 1 (.slice q (Lib.compact zs).length c) (Lib.compact zs).length (rowOf ncells (Lib.compact zs)) ∧ w.grownBy w' v.ownBlock := by
  rw [rowOf_map] at ho
  rcases ho.2 with ⟨rfl, hz⟩ | ⟨gb, cap, cur, rfl, hbase, hgb, r1, r2, r3, r4⟩
  · have hzs : zs = [] := List.eq_nil_of_length_eq_zero hz
    subst hzs
    refine (Any.slices_Compact_int_empty Tryz.layCompact none 0 w).mono ?_
    rintro e w' ⟨rfl, rfl⟩
    exact ⟨none, 0, rfl, World.ownsRow_nil _ _ _ _, ⟨rfl, rfl, rfl, Nat.le_refl _, fun _ _ _ => rfl⟩⟩
  · have hH : Holds (Value.int .i64) w gb 0 zs.toArray := holds_of_block_i hgb (by simpa using r4)
    have hgl : gb < w.heap.size := (Array.getElem?_eq_some_iff.1 hgb).1
    refine (Any.slices_Compact_int Tryz.layCompact gb 0 cap zs w hH (by omega) r1).mono ?_
    rintro e w' ⟨rfl, nn, rfl⟩
    have hcl : (Lib.compact zs).length ≤ zs.length := by
      unfold Lib.compact Lib.compactUpTo
      rw [List.length_map]
      exact Nat.le_trans (List.length_filter_le _ _) (by simp)
    have h1 := ownsRow_sorted_i (n := nn) (os := #[]) (ss := zs) (ts := Lib.compact zs ++ List.replicate (zs.length - (Lib.compact zs).length) 0) (by simp; omega) hbase hgb r1 r2 r3
    have h2 := grownBy_sorted_i (w := w) (g := gb) (n := nn) (os := #[]) (Lib.compact zs ++ List.replicate (zs.length - (Lib.compact zs).length) 0).toArray
    have hg : ∀ W : World, grow W #[] = W := fun W => by simp [grow]
    rw [hg] at h1 h2
    refine ⟨_, cap, rfl, ?_, h2⟩
    have h3 := owns_cut h1 hcl
    rw [List.map_append, List.take_append_of_le_length (by simp), List.take_of_length_le (by simp)] at h3
    rw [rowOf_map]
    exact h3

set_option maxRecDepth 100000 in
theorem norm_ints (p : Option Addr) (n c : Nat) (zs : List Int) (w : World) (h : RdI w w.heap.size p n zs) (hn : n ≤ 1000000) (N : Nat) (hN : (CL.nrm zs).length = N) :
    Calls Tryz.prog 6 #[.slice p n c] w fun e w' => ∃ q d, e = .returned (.slice q N d) ∧ w'.ownsRow w.heap.size 3 1 (.slice q N d) N (rowOf ncells (CL.nrm zs)) ∧ Below w.heap.size w w' := by
  have HR := Lib.hid h
  have HNN := Lib.hid hN
  clear h hN
  go_enter Tryz.func6, Tryz.ntmps6
  go_wp2_with fail
  refine (pile_new p n c zs w HR.out hn).mono ?_
  rintro e w1 ⟨pb, v, l, rfl, hpb, hP, hpp, hb⟩
  have HP := Lib.hid hP
  have HPP := Lib.hid hpp
  have HB := Lib.hid hb
  clear hP hpp hb
  go_wp2_with fail
  refine (pile_list pb _ v l w1 HP.out).mono ?_
  rintro e w2 ⟨u, rfl, ho, hb2⟩
  rw [CL.srt_of_perm HPP.out] at ho
  have HO : Hid (w2.ownsRow w1.heap.size 3 1 u (CL.srt zs).length (rowOf ncells (CL.srt zs))) := by
    rw [HPP.out.length_eq] at ho
    rw [CL.srt_length]
    exact ho
  have HB2 := Lib.hid hb2
  have HLE : Hid ((CL.srt zs).length ≤ 1000000) := Lib.hid (by rw [CL.srt_length, HR.out.1]; exact hn)
  clear ho hb2
  go_wp2_with fail
  refine (compact_own w1.heap.size u (CL.srt zs) w2 HLE.out HO.out).mono ?_
  rintro e w3 ⟨q, d, rfl, ho3, hg⟩
  have HO3 : Hid (w3.ownsRow w.heap.size 3 1 (.slice q N d) N (rowOf ncells (CL.nrm zs))) := by
    have e : (Lib.compact (CL.srt zs)).length = N := HNN.out
    rw [e] at ho3
    refine ⟨ho3.1, ?_⟩
    rcases ho3.2 with e | ⟨g, c, cur, e, hbase, rest⟩
    · exact .inl e
    · exact .inr ⟨g, c, cur, e, Nat.le_trans HB.out.size hbase, rest⟩
  have HB3 : Hid (Below w.heap.size w w3) := HB.out.trans (((HB2.out.grown hg HB2.out.size (fun k hk => (HO.out.lt k hk).1)).mono HB.out.size))
  have e : (Lib.compact (CL.srt zs)).length = N := HNN.out
  rw [e]
  clear ho3 hg e
  go_wp2
  go_ret
  exact ⟨q, d, rfl, HO3.out, HB3.out⟩
end Go.Proofs.YtmfidemkmmbioaaGreat
