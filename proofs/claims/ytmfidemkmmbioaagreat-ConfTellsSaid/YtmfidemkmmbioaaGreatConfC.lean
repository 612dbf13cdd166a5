/- conf: the contract of Change. -/
import Derived.Test.YtmfidemkmmbioaaGreatConfV
import Derived.Test.YtmfidemkmmbioaaGreatAppR
import Derived.Test.YtmfidemkmmbioaaGreatLayD
namespace Go.Proofs.YtmfidemkmmbioaaGreat
open Go.RowKit Go.Shelf Go.Lib Go.Sort

set_option maxRecDepth 100000 in
theorem del_gives (id x : Int) (B : Nat) (W : World) (hc : W.cell? ⟨B, 0, none⟩ = some (.int .i64 id)) :
    FnGives Tryz.prog 31 #[.pointer (some ⟨B, 0, none⟩)] #[.int .i64 x] (.bool (x == id)) W := by
  show Calls Tryz.prog 31 #[.int .i64 x, .pointer (some ⟨B, 0, none⟩)] W _
  go_enter Tryz.func31, Tryz.ntmps31
  go_wp2
  go_ret
  exact ⟨rfl, 0, rfl⟩

theorem del_over (id : Int) (B blk off size : Nat) (w : World) (hB : B < w.heap.size) (hne : B ≠ blk) (hcell : w.cell? ⟨B, 0, none⟩ = some (.int .i64 id)) :
    PredOver Tryz.prog 31 #[.pointer (some ⟨B, 0, none⟩)] (Value.int .i64) (fun x => x == id) blk off size w :=
  fun n os dk x _ => del_gives id x B _ (by
    unfold sortWorld
    rw [cell?_grow _ _ _ (by show B < (putRow _ _ _ _ _).heap.size; rw [size_putRow]; exact hB), cell?_putRow_other _ _ blk off _ _ (Or.inl hne)]
    exact hcell)

/-- slices.DeleteFunc of a row that is owned. -/
theorem delete_own (base B : Nat) (id : Int) (v : Value) (zs : List Int) (w : World) (h0 : 0 < zs.length) (hn : zs.length ≤ 1000000) (ho : w.ownsRow base 3 1 v zs.length (rowOf ncells zs)) (hB : B < base) (hc : w.cell? ⟨B, 0, none⟩ = some (.int .i64 id)) (N : Nat) (hN : (zs.filter (fun x => !(x == id))).length = N) :
    Calls Tryz.prog 30 #[v, .func (.func 31) #[] #[.pointer (some ⟨B, 0, none⟩)]] w fun e w' => ∃ q c, e = .returned (.slice q N c) ∧ w'.ownsRow base 3 1 (.slice q N c) N (rowOf ncells (zs.filter (fun x => !(x == id)))) ∧ w.grownBy w' v.ownBlock := by
  rw [rowOf_map] at ho
  rcases ho.2 with ⟨rfl, hz⟩ | ⟨gb, cap, cur, rfl, hbase, hgb, r1, r2, r3, r4⟩
  · omega
  · have hH : Holds (Value.int .i64) w gb 0 zs.toArray := holds_of_block_i hgb (by simpa using r4)
    have hgl : gb < w.heap.size := (Array.getElem?_eq_some_iff.1 hgb).1
    have hBl := cell_lt hc
    have hcon := AnyE.slices_DeleteFunc Tryz.layDelete (Value.int .i64) (fun _ => rfl) (fun x => x == id) 31 #[.pointer (some ⟨B, 0, none⟩)] (enters_of Tryz.func31 (by kernel_rfl) rfl) 0 Tryz.zeroValue3 gb 0 cap zs.toArray w
      (fun W x hb => del_gives id x B W ((hb.cell (p := ⟨B, 0, none⟩) hBl).trans hc)) (del_over id B gb 0 _ w hBl (by omega) hc) hH (by simp; omega) (by simpa using r1)
    simp only [List.size_toArray] at hcon
    refine Calls.mono hcon ?_
    rintro e w' ⟨rfl, nn, rfl⟩
    rw [hN]
    have hcl : N ≤ zs.length := by rw [← hN]; exact List.length_filter_le _ _
    have h1 := ownsRow_sorted_i (n := nn) (os := #[]) (ss := zs) (ts := zs.filter (fun x => !(x == id)) ++ List.replicate (zs.length - N) 0) (by rw [List.length_append, hN, List.length_replicate]; omega) hbase hgb r1 r2 r3
    have h2 := grownBy_sorted_i (w := w) (g := gb) (n := nn) (os := #[]) (zs.filter (fun x => !(x == id)) ++ List.replicate (zs.length - N) 0).toArray
    have hg : ∀ W : World, grow W #[] = W := fun W => by simp [grow]
    rw [hg] at h1 h2
    refine ⟨_, cap, rfl, ?_, h2⟩
    have h3 := owns_cut h1 hcl
    rw [List.map_append, List.take_append_of_le_length (by simp [hN]), List.take_of_length_le (by simp [hN])] at h3
    rw [rowOf_map]
    exact h3

namespace CL
/-- Members with one more, or without one; nothing where that can't be. -/
def change (zs : List Int) (add : Bool) (id : Int) : Option (List Int) :=
  if isId id = false then none
  else if add = true then (if id ∈ zs then none else if 9 ≤ (nrm zs).length then none else some (nrm (nrm zs ++ [id])))
  else (if id ∉ zs then none else if (nrm zs).length = 1 then none else some ((nrm zs).filter (fun x => !(x == id))))
end CL

def ChangePost (zs : List Int) (add : Bool) (id : Int) (w : World) (e : Ending) (w' : World) : Prop :=
  ∃ v code, e = .returned (.tuple #[v, .int .i64 code]) ∧ Below w.heap.size w w' ∧
    ((CL.change zs add id = none ∧ code ≠ 0 ∧ v = .slice none 0 0) ∨ (∃ l N q c, CL.change zs add id = some l ∧ l.length = N ∧ code = 0 ∧ v = .slice q N c ∧ (q = none → c = 0) ∧ w'.ownsRow w.heap.size 3 1 v N (rowOf ncells l)))

theorem owns_nil0 {w : World} {base n c : Nat} {e : TypeId} {size : Nat} {q : Option Addr} {xs : List Value} (h : w.ownsRow base e size (.slice q n c) n xs) : q = none → c = 0 := by
  rintro rfl
  rcases h.2 with ⟨e, _⟩ | ⟨g', c', cur, e, _⟩
  · injection e
  · injection e with e1 _ _; cases e1

theorem owns_more {w : World} {base base' n : Nat} {e : TypeId} {size : Nat} {v : Value} {xs : List Value} (h : w.ownsRow base e size v n xs) (hb : base' ≤ base) : w.ownsRow base' e size v n xs := by
  refine ⟨h.1, ?_⟩
  rcases h.2 with e | ⟨g, c, cur, e, hbase, rest⟩
  · exact .inl e
  · exact .inr ⟨g, c, cur, e, by omega, rest⟩

set_option maxHeartbeats 2000000 in
set_option maxRecDepth 100000 in
theorem change_ints (p : Option Addr) (n c : Nat) (zs : List Int) (add : Bool) (id : Int) (w : World) (h : RdI w w.heap.size p n zs) (hn : n ≤ 1000) :
    Calls Tryz.prog 7 #[.slice p n c, .bool add, .int .i64 id] w (ChangePost zs add id w) := by
  obtain ⟨N, hN⟩ : ∃ N, (CL.nrm zs).length = N := ⟨_, rfl⟩
  have hNn : N ≤ 1000 := by have := CL.nrm_length zs; have := h.1; omega
  have hb0 : Below w.heap.size w (w.alloc (.cells #[.int .i64 id] 3)) := (Below.refl _ w).alloc (Nat.le_refl _) _
  have HR0 := Lib.hid ((h.below hb0).more hb0.size)
  have HB0 := Lib.hid hb0
  have HNN := Lib.hid hN
  have HHAS := Lib.hid (has_ints p n c _ zs id (w.alloc (.cells #[.int .i64 id] 3)) HR0.out (by omega))
  have HNRM := Lib.hid (norm_ints p n c zs (w.alloc (.cells #[.int .i64 id] 3)) HR0.out (by omega) N HNN.out)
  have HC0 : Hid ((w.alloc (.cells #[.int .i64 id] 3)).cell? ⟨w.heap.size, 0, none⟩ = some (.int .i64 id)) := Lib.hid (by go_simp)
  have hsz0 : (w.alloc (.cells #[.int .i64 id] 3)).heap.size = w.heap.size + 1 := by simp
  have HSZ := Lib.hid hsz0
  clear h hb0 hN hsz0
  generalize hbb : decide (id ∈ zs) = had at *
  have HHAD := Lib.hid hbb
  clear hbb
  go_enter Tryz.func7, Tryz.ntmps7
  go_wp2_with fail
  refine HHAS.out.mono ?_
  rintro e w1 ⟨rfl, rfl⟩
  go_wp2_with fail
  refine HNRM.out.mono ?_
  rintro e w2 ⟨g, cap, rfl, ho, hb⟩
  have HO := Lib.hid ho
  have HB := Lib.hid hb
  have hid2 : w2.cell? ⟨w.heap.size, 0, none⟩ = some (.int .i64 id) := (hb.cell (p := ⟨w.heap.size, 0, none⟩) (by simp)).trans HC0.out
  have HBW : Hid (Below w.heap.size w w2) := HB0.out.trans (hb.mono HB0.out.size)
  clear ho hb
  have HID := Lib.hid (isId_int id w2)
  go_wp2_with fail
  refine HID.out.mono ?_
  rintro e w3 ⟨rfl, rfl⟩
  generalize hisid : CL.isId id = isid at *
  have HIS := Lib.hid hisid
  clear hisid
  cases isid with
  | false =>
    go_wp2
    go_ret2
    exact ⟨_, 1, rfl, HBW.out, .inl ⟨by unfold CL.change; rw [if_pos HIS.out], by omega, rfl⟩⟩
  | true =>
    cases add with
    | true =>
      cases had with
      | true =>
        have hin : id ∈ zs := by simpa using HHAD.out
        have HIN := Lib.hid hin
        clear hin
        go_wp2
        go_ret2
        exact ⟨_, 8, rfl, HBW.out, .inl ⟨by unfold CL.change; rw [if_neg (by rw [HIS.out]; decide), if_pos rfl, if_pos HIN.out], by omega, rfl⟩⟩
      | false =>
        have hin : id ∉ zs := by simpa using HHAD.out
        have HIN := Lib.hid hin
        clear hin
        by_cases h9 : 9 ≤ N
        · go_wp2
          go_ret2
          exact ⟨_, 10, rfl, HBW.out, .inl ⟨by unfold CL.change; rw [if_neg (by rw [HIS.out]; decide), if_pos rfl, if_neg HIN.out, HNN.out, if_pos h9], by omega, rfl⟩⟩
        · obtain ⟨M, hM⟩ : ∃ M, (CL.nrm (CL.nrm zs ++ [id])).length = M := ⟨_, rfl⟩
          have HM := Lib.hid hM
          clear hM
          have hrd : RdI (w2.alloc (.cells #[.int .i64 id] 3)) (w2.alloc (.cells #[.int .i64 id] 3)).heap.size (some ⟨w2.heap.size, 0, none⟩) 1 [id] := rd_new w2 [id] 3
          have HRD := Lib.hid hrd
          clear hrd
          have hlt2 := cell_lt hid2
          go_wp2_with (first
            | (at_builtin; refine append_rd rfl _ _ rfl w.heap.size (.slice g N cap) N (rowOf ncells (CL.nrm zs)) rfl ((owns_more HO.out (by simp)).alloc _) (some ⟨w2.heap.size, 0, none⟩) 1 1 [id] rfl HRD.out (fun h => by cases h) (by omega) (by have := HBW.out.size; simp; omega) ?_; intro v3 w3 hown3 hgr3
               rw [← rowOf_append] at hown3
               obtain ⟨p3, c3, rfl⟩ := owns_slice hown3
               have HO3 := Lib.hid hown3
               have HB3 := Lib.hid ((HBW.out.alloc HBW.out.size (.cells #[.int .i64 id] 3)).grown hgr3 (by have := HBW.out.size; simp; omega) (fun x hx => ((owns_more HO.out (by simp : w.heap.size ≤ _)).lt x hx).1))
               clear hown3 hgr3)
            | fail)
          have HN3 := Lib.hid (norm_ints p3 (N + 1) c3 (CL.nrm zs ++ [id]) w3 (RdI.of_own HO3.out (by rw [List.length_append, HNN.out]; rfl)) (by omega) M HM.out)
          refine HN3.out.mono ?_
          rintro e w4 ⟨g4, c4, rfl, ho4, hb4⟩
          have HO4 := Lib.hid ho4
          have HB4 : Hid (Below w.heap.size w w4) := HB3.out.trans (hb4.mono HB3.out.size)
          have HLE := Lib.hid HB3.out.size
          clear ho4 hb4
          go_wp2
          go_ret2
          exact ⟨_, 0, rfl, HB4.out, .inr ⟨_, M, g4, c4, by unfold CL.change; rw [if_neg (by rw [HIS.out]; decide), if_pos rfl, if_neg HIN.out, HNN.out, if_neg h9], HM.out, rfl, rfl, owns_nil0 HO4.out, owns_more HO4.out HLE.out⟩⟩
    | false =>
      cases had with
      | false =>
        have hin : id ∉ zs := by simpa using HHAD.out
        have HIN := Lib.hid hin
        clear hin
        go_wp2
        go_ret2
        exact ⟨_, 7, rfl, HBW.out, .inl ⟨by unfold CL.change; rw [if_neg (by rw [HIS.out]; decide), if_neg (by decide), if_pos HIN.out], by omega, rfl⟩⟩
      | true =>
        have hin : id ∈ zs := by simpa using HHAD.out
        have HIN := Lib.hid hin
        clear hin
        by_cases h1 : N = 1
        · subst h1
          go_wp2
          go_ret2
          exact ⟨_, 20, rfl, HBW.out, .inl ⟨by unfold CL.change; rw [if_neg (by rw [HIS.out]; decide), if_neg (by decide), if_neg (fun h => h HIN.out), if_pos HNN.out], by omega, rfl⟩⟩
        · obtain ⟨M, hM⟩ : ∃ M, ((CL.nrm zs).filter (fun x => !(x == id))).length = M := ⟨_, rfl⟩
          have HM := Lib.hid hM
          clear hM
          have hpos : 0 < (CL.nrm zs).length := List.length_pos_of_mem (CL.nrm_mem.2 HIN.out)
          have HDEL : Hid (Calls Tryz.prog 30 #[.slice g N cap, .func (.func 31) #[] #[.pointer (some ⟨w.heap.size, 0, none⟩)]] w2 fun e w' => ∃ q c, e = .returned (.slice q M c) ∧ w'.ownsRow (w.heap.size + 1) 3 1 (.slice q M c) M (rowOf ncells ((CL.nrm zs).filter (fun x => !(x == id)))) ∧ w2.grownBy w' (Value.slice g N cap).ownBlock) := by
            have ho' := HO.out
            rw [HSZ.out] at ho'
            exact delete_own (w.heap.size + 1) w.heap.size id (.slice g N cap) (CL.nrm zs) w2 hpos (by rw [HNN.out]; omega) (by rw [HNN.out]; exact ho') (by omega) hid2 M HM.out
          clear hpos
          have hne : ((N : Int) == 1) = false := by rw [beq_eq_false_iff_ne]; omega
          go_wp2_with fail
          refine HDEL.out.mono ?_
          rintro e w4 ⟨g4, c4, rfl, ho4, hg4⟩
          have HO4 := Lib.hid ho4
          have HB4 : Hid (Below w.heap.size w w4) := HBW.out.grown hg4 HBW.out.size (fun k hk => by have := (HO.out.lt k hk).1; rw [HSZ.out] at this; omega)
          clear ho4 hg4
          go_wp2
          go_ret2
          exact ⟨_, 0, rfl, HB4.out, .inr ⟨_, M, g4, c4, by unfold CL.change; rw [if_neg (by rw [HIS.out]; decide), if_neg (by decide), if_neg (fun h => h HIN.out), HNN.out, if_neg h1], HM.out, rfl, rfl, owns_nil0 HO4.out, owns_more HO4.out (by omega)⟩⟩
end Go.Proofs.YtmfidemkmmbioaaGreat
