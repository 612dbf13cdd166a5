/- slices.Sorted(slices.Values(h)) and the Pile's List: the numbers, rising, in a new slice. -/
import Derived.Test.YtedcpckocedcoaaGreatIter
import Derived.Test.YtedcpckocedcoaaGreatLayS
import Derived.Test.YtedcpckocedcoaaGreatConfL
import Derived.Test.YtedcpckocedcoaaGreatG1
import Derived.Lib.SlKeysI
namespace Go.Proofs.YtedcpckocedcoaaGreat
open Go.RowKit Go.Shelf Go.Sort

theorem rowOf_map (zs : List Int) : rowOf ncells zs = zs.map (Value.int .i64) := by
  induction zs with
  | nil => rfl
  | cons x zs ih => simp only [rowOf, List.flatMap_cons, List.map_cons] at *; rw [ih]; rfl

theorem sort_some (blk off cap : Nat) (zs : List Int) (w : World) (hH : Holds (Value.int .i64) w blk off zs.toArray) (hblk : blk < w.heap.size) (hsz : zs.length ≤ 1000000) :
    Calls Tryz.prog 49 #[.slice (some ⟨blk, off, none⟩) zs.length cap] w fun e w' =>
      e = .returned (.tuple #[]) ∧ ∃ n os, w' = grow (putRow (Value.int .i64) (Sort.ahead w n) blk off (CL.srt zs).toArray) os :=
  AnyM.slices_Sort_int Tryz.laySort blk off cap zs w hH hblk (by omega)

theorem sort_none (p : Option Addr) (cap : Nat) (w : World) :
    Calls Tryz.prog 49 #[.slice p 0 cap] w fun e w' => e = .returned (.tuple #[]) ∧ w' = w :=
  AnyM.slices_Sort_int_none Tryz.laySort p cap w

/-- slices.Sort of a row that is owned. -/
theorem sort_own (base : Nat) (v : Value) (zs : List Int) (w : World) (hn : zs.length ≤ 1000000) (ho : w.ownsRow base 3 1 v zs.length (zs.map (Value.int .i64))) :
    Calls Tryz.prog 49 #[v] w fun e w' => e = .returned (.tuple #[]) ∧ w'.ownsRow base 3 1 v zs.length ((CL.srt zs).map (Value.int .i64)) ∧ w.grownBy w' v.ownBlock := by
  rcases ho.2 with ⟨rfl, hz⟩ | ⟨gb, cap, cur, rfl, hbase, hgb, r1, r2, r3, r4⟩
  · have hzs : zs = [] := List.eq_nil_of_length_eq_zero hz
    subst hzs
    refine (sort_none none 0 w).mono ?_
    rintro e w' ⟨rfl, rfl⟩
    exact ⟨rfl, by simpa [CL.srt] using ho, ⟨rfl, rfl, rfl, Nat.le_refl _, fun _ _ _ => rfl⟩⟩
  · have hH : Holds (Value.int .i64) w gb 0 zs.toArray := holds_of_block_i hgb (by simpa using r4)
    have hgl : gb < w.heap.size := (Array.getElem?_eq_some_iff.1 hgb).1
    refine (sort_some gb 0 cap zs w hH hgl hn).mono ?_
    rintro e w' ⟨rfl, nn, os, rfl⟩
    exact ⟨rfl, ownsRow_sorted_i (by simp [CL.srt]) hbase hgb r1 r2 r3, grownBy_sorted_i _⟩

set_option maxRecDepth 100000 in
theorem sorted_seq (Bs len cap : Nat) (p : Option Addr) (zs : List Int) (hbig : len ≤ 1000000) (w : World) (hBs : Bs < w.heap.size) (hc : w.cell? ⟨Bs, 0, none⟩ = some (.slice p len cap)) (hR : RdI w w.heap.size p len zs) :
    Calls Tryz.prog 110 #[.func (.func 137) #[] #[.pointer (some ⟨Bs, 0, none⟩)]] w fun e w' =>
      ∃ v, e = .returned v ∧ w'.ownsRow w.heap.size 3 1 v zs.length ((CL.srt zs).map (Value.int .i64)) ∧ Below w.heap.size w w' := by
  have HA := Lib.hid (collect_seq Bs len cap p zs hbig w hBs hc hR)
  have HZ := Lib.hid hR.1
  clear hc hR
  go_enter Tryz.func110, Tryz.ntmps110
  go_wp2_with fail
  refine HA.out.mono ?_
  rintro e w1 ⟨v, rfl, ho, hb⟩
  have HO := Lib.hid ho
  have HB := Lib.hid hb
  clear ho hb
  go_wp2_with fail
  refine (sort_own w.heap.size v zs w1 (by have := HZ.out; omega) HO.out).mono ?_
  rintro e w2 ⟨rfl, ho2, hg⟩
  have HO2 := Lib.hid ho2
  have HG := Lib.hid hg
  clear ho2 hg
  go_wp2
  go_ret
  exact ⟨v, rfl, HO2.out, HB.out.grown HG.out HB.out.size (fun k hk => (HO.out.lt k hk).1)⟩

theorem nums_rd {pb base : Nat} {q : Option Addr} {n d : Nat} {l : List Int} {w : World} (h : PileI pb base (.slice q n d) l w) : RdI w w.heap.size q n l := by
  have ho := h.1.2.2.1
  obtain ⟨p', c', e⟩ := owns_slice ho
  injection e with _ e2 _
  subst e2
  exact RdI.of_own ho rfl

set_option maxRecDepth 100000 in
theorem pile_list (pb base : Nat) (v : Value) (l : List Int) (w : World) (h : PileI pb base v l w) :
    Calls Tryz.prog 48 #[.pointer (some ⟨pb, 0, none⟩)] w fun e w' =>
      ∃ u, e = .returned u ∧ w'.ownsRow w.heap.size 3 1 u l.length (rowOf ncells (CL.srt l)) ∧ Below w.heap.size w w' := by
  obtain ⟨q, d, rfl⟩ := owns_slice h.1.2.2.1
  have hc := h.1.1
  have hn := h.1.2.2.2.2.1
  have HR := Lib.hid (nums_rd h)
  have HH := Lib.hid h
  clear h
  go_enter Tryz.func48, Tryz.ntmps48
  go_wp2_with fail
  refine (values_call q l.length d w).mono ?_
  rintro e w1 ⟨rfl, rfl⟩
  have hb : Below w.heap.size w (w.alloc (.cells #[.slice q l.length d] 33)) := (Below.refl _ _).alloc (Nat.le_refl _) _
  have HB := Lib.hid hb
  have HS := Lib.hid (sorted_seq w.heap.size l.length d q l (by omega) (w.alloc (.cells #[.slice q l.length d] 33)) (by simp) (by go_simp) ((HR.out.below hb).more (by simp)))
  clear hb
  go_wp2_with fail
  refine HS.out.mono ?_
  rintro e w2 ⟨u, rfl, ho, hb2⟩
  have HO := Lib.hid ho
  have HB2 := Lib.hid hb2
  clear ho hb2
  go_wp2
  go_ret
  refine ⟨u, rfl, ?_, HB.out.trans (HB2.out.mono (by simp))⟩
  rw [rowOf_map]
  have := HO.out
  refine ⟨this.1, ?_⟩
  rcases this.2 with e | ⟨g, c, cur, e, hbase, rest⟩
  · exact .inl e
  · exact .inr ⟨g, c, cur, e, by simp at hbase; omega, rest⟩
end Go.Proofs.YtedcpckocedcoaaGreat
