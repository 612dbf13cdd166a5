/- hist.byBegin: a rearrangement of the events. -/
import Derived.Test.YtaijjmhannhkcaaBegP
namespace Go.Proofs.Ytaijjmhannhkcaa
open Go.RowKit

set_option maxRecDepth 100000 in
theorem info_ev : (Try.prog.info? 29).map (fun i => (i.zero, i.size, i.bytes)) = some (some (evV default), 14, 144) := by kernel_rfl

/-- The events at some places. -/
def pick (zs : List Ev) (os : List Int) : List Ev := os.map (fun x => zs.getD x.toNat default)
def upI (n : Nat) : List Int := (List.range n).map (fun k : Nat => (k : Int))

theorem by_next {w w2 w5 : World} {wz k ec g cap tc : Nat} {lp tp : Option Addr} {zs : List Ev} {v3 : Value} {l3 os : List Int} {x : Int} {ev : Ev} {o : Obj} (hB3 : BegI w.heap.size w.heap.size lp k ec zs v3 l3 w2) (hV3 : ∀ g, v3.ownBlock = some g → g < wz) (hZ : w.heap.size < wz)
    (hO2 : w2.ownsRow wz 29 14 (.slice tp os.length tc) os.length (rowOf evc (pick zs os))) (hBW : Below w.heap.size w w2) (hz2 : wz ≤ w2.heap.size) (hrow : rowOf evc (pick zs (os ++ [x])) = rowOf evc (pick zs os) ++ evc ev)
    (hown : w5.ownsRow wz 29 14 (.slice (some ⟨g, 0, none⟩) (os.length + 1) cap) (os.length + 1) (rowOf evc (pick zs os) ++ evc ev)) (hgr : (w2.alloc o).grownBy w5 (Value.slice tp os.length tc).ownBlock) :
    BegI w.heap.size w.heap.size lp k ec zs v3 l3 w5 ∧ w5.ownsRow wz 29 14 (.slice (some ⟨g, 0, none⟩) (os.length + 1) cap) (os ++ [x]).length (rowOf evc (pick zs (os ++ [x]))) ∧ Below w.heap.size w w5 ∧ wz ≤ w5.heap.size := by
  have hF5 : Fr (fun i => (Value.slice tp os.length tc).ownBlock = some i) w2 w5 := Fr.trans ((Fr.refl (fun i => (Value.slice tp os.length tc).ownBlock = some i) w2).alloc o) (Fr.of_grown (S := fun i => (Value.slice tp os.length tc).ownBlock = some i) hgr (fun i _ e => e)) (fun _ h _ => h)
  have hge : ∀ i, (Value.slice tp os.length tc).ownBlock = some i → wz ≤ i := fun i e => (hO2.lt i e).1
  have hnb : ¬ (Value.slice tp os.length tc).ownBlock = some w.heap.size := fun e => by have := hge _ e; omega
  have hA := hB3.1.keep hF5 hnb (fun g' hg' e => by have := hge _ e; have := hV3 g' hg'; omega)
  have hc := hF5.cell (p := ⟨w.heap.size, 0, none⟩) (cell_lt hB3.2.1) hnb
  refine ⟨hB3.turn hA hF5 hc (fun i e => by have := hge _ e; omega) hB3.2.2.2, ?_, hBW.trans (hF5.below hBW.size (fun i e => by have := hge _ e; omega)), Nat.le_trans hz2 hF5.size⟩
  rw [hrow, List.length_append]
  exact hown

set_option maxHeartbeats 4000000 in
set_option maxRecDepth 100000 in
theorem by_begin (lp : Option Addr) (m ec : Nat) (zs : List Ev) (w : World) (h : RdG evc w w.heap.size lp m zs) (hm : m ≤ 100) :
    Calls Try.prog 16 #[.slice lp m ec] w fun e w' => ∃ p c os, e = .returned (.slice p m c) ∧ os.Perm (upI m) ∧ RdG evc w' w'.heap.size p m (pick zs os) ∧ Below w.heap.size w w' := by
  obtain ⟨i0, hi0, hz0, hz1, hz2⟩ := info_parts info_ev
  have hA0 : AtI w.heap.size w.heap.size (.slice none 0 0) [] (w.alloc (.cells #[.slice lp m ec, .slice none 0 0] 69)) :=
    ⟨by go_simp, by go_simp, World.ownsRow_nil _ _ _ _, (fun e => by cases e), by simp, by simp⟩
  have HB0 : Hid (BegI w.heap.size w.heap.size lp m ec zs (.slice none 0 0) [] (w.alloc (.cells #[.slice lp m ec, .slice none 0 0] 69))) := Lib.hid ⟨hA0, by go_simp, h.below ((Below.refl _ w).alloc (Nat.le_refl _) _), fun x hx => by cases hx⟩
  have HH0 : Hid (HL.IsHeap (blt zs) []) := Lib.hid (fun k h0 hk => by simp at hk)
  have HM := Lib.hid hm
  clear h hA0
  go_enter Try.func16, Try.ntmps16
  go_wp2
  go_loopw [11] (fun iv wr => ∃ k : Nat, k ≤ m ∧ iv = .int .i64 k ∧ ∃ v l, Hid (BegI w.heap.size w.heap.size lp m ec zs v l wr ∧ HL.IsHeap (blt zs) l ∧ l.Perm (upI k) ∧ Below w.heap.size w wr)) (fun iv _ => m - (intOf iv).toNat)
  case atStart => exact ⟨0, Nat.zero_le _, rfl, .slice none 0 0, [], Lib.hid ⟨HB0.out, HH0.out, List.Perm.refl _, (Below.refl _ w).alloc (Nat.le_refl _) _⟩⟩
  case round =>
    clear HB0 HH0
    obtain ⟨k, hk, rfl, v, l, HB⟩ := hrel
    by_cases hlt : k < m
    · have hll : l.length = k := by have := HB.out.2.2.1.length_eq; simpa [upI] using this
      have hltI : (k : Int) < (m : Int) := by omega
      have HPU := Lib.hid (beg_push HB.out.1 (Nat.le_refl _) HB.out.2.1 (by have := HM.out; omega) k hlt)
      clear hll
      go_wp2_with fail
      refine HPU.out.mono ?_
      rintro e w1 ⟨rfl, v', l', hb1, hh1, hp1, hbw⟩
      have HB1 : Hid (BegI w.heap.size w.heap.size lp m ec zs v' l' w1 ∧ HL.IsHeap (blt zs) l' ∧ l'.Perm (upI (k + 1)) ∧ Below w.heap.size w w1) := Lib.hid ⟨hb1, hh1, hp1.trans (by
        have e : upI (k + 1) = upI k ++ [(k : Int)] := by simp [upI, List.range_succ]
        rw [e]
        exact HB.out.2.2.1.append_right _), HB.out.2.2.2.trans hbw⟩
      clear hb1 hh1 hp1 hbw HPU HB
      go_wp2
      go_roundw
      case rel => exact ⟨k + 1, by omega, by simp, v', l', HB1⟩
      case measure => simp [intOf]; omega
    · obtain rfl : k = m := by omega
      have hltI : ¬ (k : Int) < (k : Int) := by omega
      have HZ : Hid (w.heap.size < wr.heap.size) := Lib.hid (cell_lt HB.out.1.2.1)
      have HL0 : Hid (l.length = k) := Lib.hid (by have := HB.out.2.2.1.length_eq; simpa [upI] using this)
      generalize wr = wz at *
      go_wp2
      go_loopw [5] (fun tv wq => ∃ (v2 : Value) (l2 os : List Int), Hid (BegI w.heap.size w.heap.size lp k ec zs v2 l2 wq ∧ v2.ownBlock = v.ownBlock ∧ HL.IsHeap (blt zs) l2 ∧ (os ++ l2).Perm (upI k) ∧ wq.ownsRow wz.heap.size 29 14 tv os.length (rowOf evc (pick zs os)) ∧ Below w.heap.size w wq ∧ wz.heap.size ≤ wq.heap.size)) (fun tv _ => match tv with | .slice _ n _ => k - n | _ => 0)
      case atStart => exact ⟨v, l, [], Lib.hid ⟨HB.out.1, rfl, HB.out.2.1, HB.out.2.2.1, World.ownsRow_nil _ _ _ _, HB.out.2.2.2, Nat.le_refl _⟩⟩
      case round =>
        obtain ⟨v2, l2, os, HC⟩ := hrel
        obtain ⟨tp, tc, rfl⟩ := owns_slice HC.out.2.2.2.2.1
        obtain ⟨ap, ac, hav⟩ := owns_slice HC.out.1.1.2.2.1
        have HLE := Lib.hid (len_beg w.heap.size ap l2.length ac wr (by rw [HC.out.1.1.1, hav]))
        have HSUM : Hid (os.length + l2.length = k) := Lib.hid (by have := HC.out.2.2.2.1.length_eq; simpa [upI] using this)
        clear hav
        by_cases hn : 0 < l2.length
        · have hnI : (0 : Int) < (l2.length : Int) := by omega
          have HPO := Lib.hid (beg_pop HC.out.1 (Nat.le_refl _) HC.out.2.2.1 hn)
          go_wp2_with fail
          refine HLE.out.mono ?_
          rintro e w1 ⟨rfl, rfl⟩
          go_wp2_with fail
          refine HPO.out.mono ?_
          rintro e w2 ⟨u, rfl, v3, l3, rfl, hb3, hh3, hp3, hf3, hv3⟩
          have hmx : HL.el l2 0 ∈ l2 := by
            cases l2 with
            | nil => simp at hn
            | cons a r => simp [HL.el]
          obtain ⟨hx0, hxm⟩ := HC.out.1.2.2.2 _ hmx
          clear hmx HPO
          generalize HL.el l2 0 = x at *
          obtain ⟨x, rfl⟩ := Int.eq_ofNat_of_zero_le hx0
          have hxm' : x < k := by omega
          obtain ⟨b, o, elp, hbb, hcell⟩ := ev_cell hb3.2.2.1 x hxm'
          have hvlt : ∀ g, v2.ownBlock = some g → g < wz.heap.size := fun g hg => (HB.out.1.1.2.2.1.lt g (by rw [← HC.out.2.1]; exact hg)).2
          have HO2 : Hid (w2.ownsRow wz.heap.size 29 14 (.slice tp os.length tc) os.length (rowOf evc (pick zs os))) := Lib.hid (hf3.owns HC.out.2.2.2.2.1 (fun g hg hS => by
            have h1 := (HC.out.2.2.2.2.1.lt g hg).1
            rcases hS with e | e
            · have := HZ.out; omega
            · have := hvlt g e; omega))
          have HB3 := Lib.hid hb3
          have HV3 : Hid (∀ g, v3.ownBlock = some g → g < wz.heap.size) := Lib.hid (fun g hg => hvlt g (by rw [← hv3]; exact hg))
          have HP3 : Hid ((os ++ [(x : Int)] ++ l3).Perm (upI k)) := Lib.hid (by
            rw [List.append_assoc]
            exact (List.Perm.append_left os hp3).trans HC.out.2.2.2.1)
          have HH3 := Lib.hid hh3
          have HBW : Hid (Below w.heap.size w w2 ∧ wz.heap.size ≤ w2.heap.size ∧ v3.ownBlock = v.ownBlock) := Lib.hid ⟨HC.out.2.2.2.2.2.1.trans (hf3.below HC.out.1.1.2.2.2.2.2 (fun k hk => by
            rcases hk with e | e
            · exact Nat.le_of_eq e.symm
            · exact (HC.out.1.1.2.2.1.lt k e).1)), Nat.le_trans HC.out.2.2.2.2.2.2 hf3.size, hv3.trans HC.out.2.1⟩
          have HROW : Hid (rowOf evc (pick zs (os ++ [(x : Int)])) = rowOf evc (pick zs os) ++ evc (zs.getD x default)) := Lib.hid (by
            have e : pick zs (os ++ [(x : Int)]) = pick zs os ++ [zs.getD x default] := by simp [pick]
            rw [e, rowOf_append, rowOf_one])
          have hok2 : os.length < k := by have := HSUM.out; omega
          have hosk : os.length < 100 := by have := HSUM.out; have := HM.out; omega
          subst elp
          generalize zs.getD x default = ev at *
          have c0 : w2.cell? ⟨b, o + x * 14, none⟩ = some (.int .i64 ev.client) := hcell 0 _ rfl (by omega)
          have c1 : w2.cell? ⟨b, o + x * 14 + 1, none⟩ = some (.int .i64 ev.num) := hcell 1 _ rfl (by omega)
          have c2 : w2.cell? ⟨b, o + x * 14 + 2, none⟩ = some (.int .i64 ev.kind) := hcell 2 _ rfl (by omega)
          have c3 : w2.cell? ⟨b, o + x * 14 + 3, none⟩ = some (.int .i64 ev.sess) := hcell 3 _ rfl (by omega)
          have c4 : w2.cell? ⟨b, o + x * 14 + 4, none⟩ = some (.int .i64 ev.sq) := hcell 4 _ rfl (by omega)
          have c5 : w2.cell? ⟨b, o + x * 14 + 5, none⟩ = some (.string ev.key) := hcell 5 _ rfl (by omega)
          have c6 : w2.cell? ⟨b, o + x * 14 + 6, none⟩ = some (.string ev.val) := hcell 6 _ rfl (by omega)
          have c7 : w2.cell? ⟨b, o + x * 14 + 7, none⟩ = some (.string ev.old) := hcell 7 _ rfl (by omega)
          have c8 : w2.cell? ⟨b, o + x * 14 + 8, none⟩ = some (.int .i64 ev.err) := hcell 8 _ rfl (by omega)
          have c9 : w2.cell? ⟨b, o + x * 14 + 9, none⟩ = some (.string ev.rval) := hcell 9 _ rfl (by omega)
          have c10 : w2.cell? ⟨b, o + x * 14 + 10, none⟩ = some (.int .i64 ev.rnum) := hcell 10 _ rfl (by omega)
          have c11 : w2.cell? ⟨b, o + x * 14 + 11, none⟩ = some (.int .i64 ev.frm) := hcell 11 _ rfl (by omega)
          have c12 : w2.cell? ⟨b, o + x * 14 + 12, none⟩ = some (.int .i64 ev.to) := hcell 12 _ rfl (by omega)
          have c13 : w2.cell? ⟨b, o + x * 14 + 13, none⟩ = some (.bool ev.done) := hcell 13 _ rfl (by omega)
          have hta := beg_ta
          clear hcell hb3 hh3 hp3 hf3 hv3 hvlt HC HLE hn hnI hx0
          go_wp2_with (first
            | (at_builtin; refine wpList_append_lies _ rfl _ _ 33 rfl wz.heap.size 29 i0 _ 14 144 Try.underlying33 hi0 hz0 hz1 hz2 rfl (by omega) _ os.length (rowOf evc (pick zs os)) rfl ?own ⟨w2.heap.size, 0, none⟩ 1 1 (evc ev) rfl rfl ?cells ?one (by omega) ?len ?bytes ?base (w2.heap.size + 1) (by simp) ?_; (case own => exact HO2.out.alloc _); (case cells => exact new_cells w2 _ _); (case one => simp [evc, Value.oneCell']); (case len => unfold maxLen; omega); (case bytes => omega); (case base => have := HBW.out.2.1; simp; omega); intro g cap w5 hown hgr hat hglt
               have hnx := by_next HB3.out HV3.out HZ.out HO2.out HBW.out.1 HBW.out.2.1 HROW.out hown hgr
               have HN5 : Hid (BegI w.heap.size w.heap.size (some ⟨b, o, none⟩) k ec zs v3 l3 w5 ∧ v3.ownBlock = v.ownBlock ∧ HL.IsHeap (blt zs) l3 ∧ (os ++ [(x : Int)] ++ l3).Perm (upI k) ∧ w5.ownsRow wz.heap.size 29 14 (.slice (some ⟨g, 0, none⟩) (os.length + 1) cap) (os ++ [(x : Int)]).length (rowOf evc (pick zs (os ++ [(x : Int)]))) ∧ Below w.heap.size w w5 ∧ wz.heap.size ≤ w5.heap.size) := Lib.hid ⟨hnx.1, HBW.out.2.2, HH3.out, HP3.out, hnx.2⟩
               clear hown hgr hat hglt hnx)
            | fail)
          go_roundw
          case rel => exact ⟨v3, l3, os ++ [(x : Int)], HN5⟩
          case measure => simp; omega
        · have hnI : ¬ (0 : Int) < (l2.length : Int) := by omega
          have hok : os.length = k := by have := HSUM.out; omega
          have hl2 : l2 = [] := List.eq_nil_of_length_eq_zero (by omega)
          have HR : Hid (os.Perm (upI k) ∧ RdG evc wr wr.heap.size tp k (pick zs os) ∧ Below w.heap.size w wr) := Lib.hid ⟨by have := HC.out.2.2.2.1; rw [hl2, List.append_nil] at this; exact this, by have h9 := RdG.of_own HC.out.2.2.2.2.1 (by simp [pick]); rw [hok] at h9; exact h9, HC.out.2.2.2.2.2.1⟩
          clear HC hl2
          go_wp2_with fail
          refine HLE.out.mono ?_
          rintro e w1 ⟨rfl, rfl⟩
          go_wp2
          go_ret
          exact ⟨tp, tc, os, rfl, HR.out⟩
end Go.Proofs.Ytaijjmhannhkcaa
