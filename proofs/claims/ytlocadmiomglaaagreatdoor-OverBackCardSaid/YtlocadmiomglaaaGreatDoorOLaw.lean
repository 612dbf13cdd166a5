/- Chapter 10: a pager with chains, as the laws use it; alive is true. -/
import Derived.Test.YtlocadmiomglaaaGreatDoorOPut
import Derived.Test.YtlocadmiomglaaaGreatDoorODrop
import Derived.Test.YtlocadmiomglaaaGreatDoorGFullL
import Derived.Test.YtlocadmiomglaaaGreatDoorB8
namespace Go.Proofs.YtlocadmiomglaaaGreatDoor
open Go.RowKit Go.Maps Go.Conc

structure OvW (pb m k : Nat) (w0 : World) (s : PgS) (U : Nat → Prop) (w : World) : Prop where
  pg : Pg pb w0.heap.size s U w
  ov : OvJ m k s
  below : Below w0.heap.size w0 w

theorem hd_el (is : List Int) : is.headD 0 = HL.el is 0 := by
  cases is with
  | nil => rfl
  | cons a r => rfl

theorem ov_new (m : Nat) (hm : 2 ≤ m) (w0 w : World) (e : Ending) (h : BaseR m 2 w0 e w) : ∃ db rb fb rf, e = .returned (.tuple #[.pointer (some ⟨db, 0, none⟩), .pointer (some ⟨rb, 0, none⟩), .pointer (some ⟨fb, 0, none⟩), .pointer (some ⟨rf, 0, none⟩), .bool true]) ∧
    Calls Tryz.prog 13 #[.pointer (some ⟨db, 0, none⟩), .pointer (some ⟨fb, 0, none⟩), .int .i64 2, .int .i64 1] w fun e w' => ∃ pb, e = .returned (.tuple #[.pointer (some ⟨pb, 0, none⟩), .int .i64 0]) ∧ ∃ s U, OvW pb m 0 w0 s U w' ∧ s.A = [] ∧ s.sp = [] ∧ s.pages = 2 := by
  obtain ⟨db, rb, fb, rf, Fd, Ff, rfl, hD, hF, hap, hdb, hfb, hb⟩ := h
  refine ⟨db, rb, fb, rf, rfl, ?_⟩
  refine (pg_new (base := w0.heap.size) 2 1 hD hF hap (fun k hk => Nat.le_trans hdb (hD.ge k hk)) (fun k hk => Nat.le_trans hfb (hF.ge k hk)) hb.size (by omega) (by simp) (by omega) (fun x hx => by cases hx) (by simp)).mono ?_
  rintro e w' ⟨pb, bm, bd, bw, sb, sbase, U, he, hP, hU, hb', hpb⟩
  exact ⟨pb, he, _, U, ⟨hP, OvJ.new hm, hb.trans (hb'.mono hb.size)⟩, rfl, rfl, rfl⟩

section
variable {pb m k : Nat} {w0 w w' : World} {s : PgS} {U : Nat → Prop}
theorem OvW.turn {k' : Nat} {s' : PgS} {U' : Nat → Prop} (h : OvW pb m k w0 s U w) (hP : Pg pb w0.heap.size s' U' w') (hJ : OvJ m k' s') (hS : Step U U' w w') : OvW pb m k' w0 s' U' w' :=
  ⟨hP, hJ, h.below.trans (hS.1.below h.below.size h.pg.ge)⟩
theorem OvW.later (h : OvW pb m k w0 s U w) (hb : Below w.heap.size w w') : OvW pb m k w0 s U w' := ⟨h.pg.below hb, h.ov, h.below.trans (hb.mono h.below.size)⟩

theorem ow_put (h : OvW pb m k w0 s U w) (hm : m ≤ 3000) (hk : k ≤ 100000) (v : ByteArray) (hv1 : 1 ≤ v.size) (hv2 : v.size ≤ 2000) :
    Calls Tryz.prog 7 #[.pointer (some ⟨pb, 0, none⟩), .string v] w fun e w' => ∃ s' U', OvW pb m (k + 2 * cutN v) w0 s' U' w' ∧ Step U U' w w' ∧
      ((cutN v ≤ room m s ∧ ∃ is, e = .returned (.tuple #[.int .i64 (HL.el is 0), .int .i64 0]) ∧ PutL m s s' v (cutN v) is) ∨ (room m s < cutN v ∧ e = .returned (.tuple #[.int .i64 0, .int .i64 10]) ∧ s'.A = s.A ∧ room m s' = room m s)) := by
  refine (over_put h.pg h.ov hm hk v hv1 hv2).mono ?_
  rintro e w' ⟨s', U', hP, hS, hJ, hr⟩
  exact ⟨s', U', h.turn hP hJ hS, hS, hr⟩
theorem ow_put_ok (h : OvW pb m k w0 s U w) (hm : m ≤ 3000) (hk : k ≤ 100000) (v : ByteArray) (hv1 : 1 ≤ v.size) (hv2 : v.size ≤ 2000) (hr : cutN v ≤ room m s) :
    Calls Tryz.prog 7 #[.pointer (some ⟨pb, 0, none⟩), .string v] w fun e w' => ∃ s' U' is, e = .returned (.tuple #[.int .i64 (HL.el is 0), .int .i64 0]) ∧ OvW pb m (k + 2 * cutN v) w0 s' U' w' ∧ Step U U' w w' ∧ PutL m s s' v (cutN v) is := by
  refine (ow_put h hm hk v hv1 hv2).mono ?_
  rintro e w' ⟨s', U', hO, hS, ⟨_, is, he, hL⟩ | ⟨h9, _⟩⟩
  · exact ⟨s', U', is, he, hO, hS, hL⟩
  · omega
theorem ow_put_full (h : OvW pb m k w0 s U w) (hm : m ≤ 3000) (hk : k ≤ 100000) (v : ByteArray) (hv1 : 1 ≤ v.size) (hv2 : v.size ≤ 2000) (hr : room m s < cutN v) :
    Calls Tryz.prog 7 #[.pointer (some ⟨pb, 0, none⟩), .string v] w fun e w' => e = .returned (.tuple #[.int .i64 0, .int .i64 10]) ∧ ∃ s' U', OvW pb m (k + 2 * cutN v) w0 s' U' w' ∧ Step U U' w w' ∧ s'.A = s.A := by
  refine (ow_put h hm hk v hv1 hv2).mono ?_
  rintro e w' ⟨s', U', hO, hS, ⟨h9, _⟩ | ⟨_, he, hA, _⟩⟩
  · omega
  · exact ⟨he, s', U', hO, hS, hA⟩

theorem ow_get (h : OvW pb m k w0 s U w) (hm : m ≤ 3000) {is : List Int} {v : ByteArray} (hc : Chain s.A is (cutL v)) (hv1 : 1 ≤ v.size) (hv2 : v.size ≤ 2000) :
    Calls Tryz.prog 8 #[.pointer (some ⟨pb, 0, none⟩), .int .i64 (HL.el is 0), .int .i64 v.size] w fun e w' => e = .returned (.tuple #[.string v, .int .i64 0]) ∧ Below w.heap.size w w' := by
  have hw := walk_chain h.pg h.ov hm hc hv1 hv2
  rw [hd_el] at hw
  refine over_get (T := fun w' => Below w.heap.size w w') _ _ _ _ _ (hw.mono ?_)
  rintro e w' ⟨u, he, _, hb⟩
  exact ⟨u, he, hb⟩
theorem ow_pages (h : OvW pb m k w0 s U w) (hm : m ≤ 3000) {is : List Int} {v : ByteArray} (hc : Chain s.A is (cutL v)) (hv1 : 1 ≤ v.size) (hv2 : v.size ≤ 2000) :
    Calls Tryz.prog 9 #[.pointer (some ⟨pb, 0, none⟩), .int .i64 (HL.el is 0), .int .i64 v.size] w fun e w' => ∃ p c, e = .returned (.tuple #[.slice p (cutN v) c, .int .i64 0]) ∧ Below w.heap.size w w' := by
  have hw := walk_chain h.pg h.ov hm hc hv1 hv2
  rw [hd_el] at hw
  refine (over_pages (T := fun u w' => (∃ p c, u = .slice p (cutN v) c) ∧ Below w.heap.size w w') _ _ _ (.int .i64 0) (hw.mono ?_)).mono ?_
  · rintro e w' ⟨u, he, ho, hb⟩
    exact ⟨u, _, he, owns_slice ho, hb⟩
  · rintro e w' ⟨u, he, ⟨p, c, rfl⟩, hb⟩
    exact ⟨p, c, he, hb⟩
theorem ow_drop (h : OvW pb m k w0 s U w) (hm : m ≤ 3000) (hk : k ≤ 100000) {is : List Int} {v : ByteArray} (hc : Chain s.A is (cutL v)) (hnd : is.Nodup) (hv1 : 1 ≤ v.size) (hv2 : v.size ≤ 2000) :
    Calls Tryz.prog 11 #[.pointer (some ⟨pb, 0, none⟩), .int .i64 (HL.el is 0), .int .i64 v.size] w fun e w' => e = .returned (.int .i64 0) ∧ ∃ s' U', OvW pb m (k + cutN v) w0 s' U' w' ∧ Step U U' w w' ∧ DropS m (k + cutN v) s s' is := by
  have hw := over_drop h.pg h.ov hm hk hc hnd hv1 hv2
  rw [hd_el] at hw
  refine hw.mono ?_
  rintro e w' ⟨he, s', U', hP, hS, hD⟩
  exact ⟨he, s', U', h.turn hP hD.ov hS, hS, hD⟩
theorem ow_gone (h : OvW pb m k w0 s U w) (hm : m ≤ 3000) {id : Int} {n : Nat} (hn1 : 1 ≤ n) (hn2 : n ≤ 2000) (h2 : 2 ≤ id) (hp : id < (s.pages : Int)) (hno : id ∉ kys s) (hW : id ∈ s.W) :
    Calls Tryz.prog 8 #[.pointer (some ⟨pb, 0, none⟩), .int .i64 id, .int .i64 n] w fun e w' => e = .returned (.tuple #[.string ByteArray.empty, .int .i64 7]) ∧ Below w.heap.size w w' := by
  have h3 := h.ov.nwp
  have h4 := h.ov.nwm
  refine over_get (T := fun w' => Below w.heap.size w w') _ _ _ _ _ ((walk_gone (pb := pb) id n hn1 hn2 (fun W hW' => ?_)).mono ?_)
  · exact pg_read_gone id (h.pg.below hW') (int_wf (by omega) (by omega)) h2 hp hno (.inr hW)
  · rintro e w' ⟨he, hb⟩
    exact ⟨_, he, hb⟩
end

theorem nought500 (b base : Nat) (w2 : World) (ho : w2.ownsRow base 5 1 (.slice (some ⟨b, 0, none⟩) 500 500) 500 (madeCells (Value.int .u8 0).cells (500 * 1)).toList) :
    ∃ pg : ByteArray, pg.size = 500 ∧ (convert 90 9 (.slice (some ⟨b, 0, none⟩) 500 500)).run Tryz.prog w2 = .ok (.string pg) w2 := by
  have hl : (List.replicate 500 (0 : UInt8)).length = 500 := List.length_replicate
  have e := run_convert_bytes_back (P := Tryz.prog) w2 90 9 5 ⟨b, 0, none⟩ 500 (List.replicate 500 0) Tryz.underlying90 Tryz.underlying5 Tryz.underlying9 (fun j hj => by
    refine ho.cells (g := b) rfl j _ ?_
    have e : (List.replicate 500 (0 : UInt8))[j] = 0 := List.eq_of_mem_replicate (List.getElem_mem hj)
    rw [e]
    unfold madeCells
    rw [Array.toList_map, List.getElem?_map, Array.toList_range, List.getElem?_range (by rw [hl] at hj; omega)]
    simp [Value.cells, Nat.mod_one])
  rw [hl] at e
  refine ⟨_, ?_, e⟩
  show (List.replicate 500 (0 : UInt8)).toArray.size = 500
  rw [List.size_toArray]
  exact hl

set_option maxHeartbeats 4000000 in
set_option maxRecDepth 100000 in
theorem oalive_true (w : World) : Calls Tryz.prog 10 #[] w fun e w' => e = .returned (.bool true) ∧ Below w.heap.size w w' := by
  obtain ⟨j0, hj0, jz0, jz1, jz2⟩ := info_parts info_byte1
  have HBS := Lib.hid (base_nil 9 2 w (by omega) (by omega) (by omega))
  go_enter Tryz.func10, Tryz.ntmps10
  go_wp2_with fail
  refine HBS.out.mono ?_
  rintro e w1 hR
  obtain ⟨db, rb, fb, rf, rfl, hN⟩ := ov_new 9 (by omega) w w1 e hR
  have HN := Lib.hid hN
  clear hR hN HBS
  go_wp2_with fail
  refine HN.out.mono ?_
  rintro e w2 ⟨pb, rfl, s, U, hO, hA, hsp, hpg⟩
  have HO := Lib.hid hO
  have HRM : Hid (room 9 s = 7) := Lib.hid (by unfold room; rw [hsp, hpg]; rfl)
  clear hO hA hsp hpg HN
  go_wp2_with (first
    | (refine wpList_make_full _ rfl _ _ _ rfl w2.heap.size 5 j0 _ 1 Tryz.underlying90 hj0 jz0 jz1 .i64 .i64 500 500 500 rfl rfl rfl rfl (by rw [jz2]; omega) (by unfold maxLen; omega) (Nat.le_refl _) ?_; intro w3 how hgr
       have hb3 : Below w2.heap.size w2 w3 := (Below.refl _ w2).grown hgr (Nat.le_refl _) (fun k hk => by cases hk)
       have HO3 := Lib.hid (HO.out.later hb3)
       obtain ⟨v, hvs, hcv⟩ := nought500 _ _ _ how
       have HVS := Lib.hid hvs
       clear how hgr hb3 hvs)
    | fail)
  have HN : Hid (cutN v = 3) := Lib.hid (by unfold cutN; rw [HVS.out])
  have HCU := Lib.hid (over_cut v w3 (by rw [HVS.out]; omega))
  clear hcv
  refine HCU.out.mono ?_
  rintro e w4 ⟨u, rfl, ho, hb4⟩
  rw [HN.out] at ho
  obtain ⟨g, cap, rfl, hg1, hg2, _⟩ := owns_len ho (by omega)
  have hcell : w4.cell? ⟨g, 2, none⟩ = some (.string (pieceAt v 2)) := by
    have e1 := rowOf_at scells scells_length (cutL v) 2 0 (by rw [cutL_length, HN.out]; omega) (by omega)
    rw [cut_at v 2 (by rw [HN.out]; omega)] at e1
    have e := ho.cells (g := g) rfl 2 (.string (pieceAt v 2)) e1
    rw [add_at, Nat.zero_add] at e
    exact e
  have hps : (pieceAt v 2).size = 20 := by rw [piece_size, HVS.out]; omega
  have HPS := Lib.hid hps
  have HO4 := Lib.hid (HO3.out.later hb4)
  have HGU : Hid (¬ U g) := Lib.hid (fun hu => by have := HO3.out.pg.lt _ hu; omega)
  have HCELL := Lib.hid hcell
  have HG : Hid (g < w4.heap.size) := Lib.hid hg2
  have HPT := Lib.hid (ow_put_ok HO4.out (by omega) (by omega) v (by rw [HVS.out]; omega) (by rw [HVS.out]; omega) (by rw [HN.out, HRM.out]; omega))
  clear ho hb4 hg1 hg2 hcell hps HCU HO3
  go_wp2_with fail
  refine HPT.out.mono ?_
  rintro e w5 ⟨s5, U5, is, rfl, hO5, hS5, hL5⟩
  have HC5 : Hid (w5.cell? ⟨g, 2, none⟩ = some (.string (pieceAt v 2))) := Lib.hid ((hS5.1.cell (p := ⟨g, 2, none⟩) HG.out HGU.out).trans HCELL.out)
  have HG5 : Hid (g < w5.heap.size) := Lib.hid (Nat.lt_of_lt_of_le HG.out hS5.1.size)
  have HO5 := Lib.hid hO5
  have HCH := Lib.hid hL5.chain
  have hget := ow_get HO5.out (by omega) HCH.out (by rw [HVS.out]; omega) (by rw [HVS.out]; omega)
  rw [HVS.out] at hget
  have HGET := Lib.hid hget
  have HPGS : Hid (∀ W, Below w5.heap.size w5 W → Calls Tryz.prog 9 #[.pointer (some ⟨pb, 0, none⟩), .int .i64 (HL.el is 0), .int .i64 500] W fun e w' => ∃ p c, e = .returned (.tuple #[.slice p 3 c, .int .i64 0]) ∧ Below W.heap.size W w') := Lib.hid (fun W hW => by
    have h9 := ow_pages (HO5.out.later hW) (by omega) HCH.out (by rw [HVS.out]; omega) (by rw [HVS.out]; omega)
    rw [HVS.out, HN.out] at h9
    exact h9)
  clear hO5 hS5 hL5 HPT HCELL HGU HG hget HO4 HCH
  generalize HL.el is 0 = id at *
  go_wp2_with fail
  refine HGET.out.mono ?_
  rintro e w6 ⟨rfl, hb6⟩
  have HB6 := Lib.hid hb6
  clear hb6
  go_wp2_with fail
  refine (HPGS.out _ HB6.out).mono ?_
  rintro e w7 ⟨p, c, rfl, hb7⟩
  have hb57 : Below w5.heap.size w5 w7 := HB6.out.trans (hb7.mono HB6.out.size)
  have hc7 : w7.cell? ⟨g, 2, none⟩ = some (.string (pieceAt v 2)) := (hb57.cell (p := ⟨g, 2, none⟩) HG5.out).trans HC5.out
  have HB7 := Lib.hid ((HO5.out.later hb57).below)
  have hps := HPS.out
  have hpsI : ((pieceAt v 2).size : Int) = 20 := by omega
  clear hb7 hb57 HPGS HB6 HO5 HGET
  generalize pieceAt v 2 = x at *
  have hss : (v.toList == v.toList) = true := by simp
  go_wp2
  go_ret
  exact ⟨rfl, HB7.out⟩
end Go.Proofs.YtlocadmiomglaaaGreatDoor
