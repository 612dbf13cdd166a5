/- arboretumlaw5.MetaTorn: its walk where both have room. -/
import Derived.Test.YtpoiopjggmhnjaaDoorMTornK
namespace Go.Proofs.YtpoiopjggmhnjaaDoor
open Go.RowKit Go.Conc

/-- What is handed in after a variable argument list of one number. -/
theorem rd_one (w : World) (x : Int) : RdI (w.alloc (.cells #[.int .i64 x] 3)) (w.alloc (.cells #[.int .i64 x] 3)).heap.size (some ⟨w.heap.size, 0, none⟩) 1 [x] :=
  ⟨rfl, fun _ => ⟨w.heap.size, 0, rfl, by simp, fun k hk => by
    obtain rfl : k = 0 := by omega
    have e := new_cells w [.int .i64 x] 3 0 _ rfl
    rw [add_at0] at e
    exact e⟩⟩

set_option maxHeartbeats 8000000 in
set_option maxRecDepth 100000 in
theorem torn_main (m nx : Mt) (hm : m.ok) (hn : nx.ok) (a2 keep : Int) (w : World) (h2 : m.txn ≤ 1099511627776) (ht : nx.txn = m.txn + 1) (hp : nx.pages < 2 ^ 24) : Calls Tryd.prog 5 #[mtv m, .agg #[.int .i64 a2, .int .i64 nx.root, .int .i64 nx.free, .int .i64 nx.pages], .int .i64 keep] w fun e w' => e = .returned (.bool true) ∧ Below w.heap.size w w' := by
  have HA := Lib.hid (fun w => malive_true w)
  have HP := Lib.hid (fun w => meta_put m w hm)
  have hmv : mtv nx = .agg #[.int .i64 ((m.txn : Int) + 1), .int .i64 nx.root, .int .i64 nx.free, .int .i64 nx.pages] := by
    unfold mtv
    rw [ht, Int.natCast_add]
    rfl
  have HQ := Lib.hid (fun w => meta_put nx w hn)
  rw [hmv] at HQ
  have HB0 : Hid (∀ A B, Below w.heap.size w ((w.alloc A).alloc B)) := Lib.hid (fun A B => ((Below.refl _ w).alloc (Nat.le_refl _) A).alloc (by simp) B)
  have HX := Lib.hid (boxes_fresh w m.txn m.root m.free m.pages ((m.txn : Int) + 1) nx.root nx.free nx.pages)
  have HWM := Lib.hid (fun (db base : Nat) (sy nw : List ByteArray) (F : Nat → Prop) (W : World) (h : Dv db base 2 true false 0 sy nw [] F W) (hk : 2 ≤ nw.length) => meta_write m hm h hk (by simp) (by omega))
  have HWN := Lib.hid (fun (db base : Nat) (sy nw : List ByteArray) (F : Nat → Prop) (W : World) (h : Dv db base 2 true false 0 sy nw [] F W) (hk : 2 ≤ nw.length) => meta_write nx hn h hk (by simp) (by omega))
  rw [hmv] at HWN
  have HCH := Lib.hid (fun (db base : Nat) (F : Nat → Prop) (W : World) h => torn_choose (db := db) (base := base) (lf := 0) (F := F) (w := W) hm hn ht hp keep h)
  have HMN : Hid (m ≠ nx) := Lib.hid (fun e => by rw [← e] at ht; omega)
  have HT : Hid ((nx.txn : Int) = (m.txn : Int) + 1) := Lib.hid (by omega)
  have h1 : ¬ ((m.txn : Int) < 0) := by omega
  have h2' : ¬ (1099511627776 < (m.txn : Int)) := by omega
  have h3 : ¬ (16777216 ≤ (nx.pages : Int)) := by omega
  unfold mtv at HP HWM ⊢
  clear hm hn h2 ht hp
  go_enter Tryd.func5, Tryd.ntmps5
  go_wp2_with fail
  refine (HP.out _).mono ?_
  rintro e w1 ⟨rfl, hb1⟩
  have HX1 := Lib.hid (HX.out.below hb1 HX.out.2.2)
  obtain ⟨c0, c1, c2', c3⟩ := HX1.out.2.1.cells
  have HB1 : Hid (Below w.heap.size w w1) := Lib.hid ((HB0.out _ _).trans (hb1.mono (HB0.out _ _).size))
  clear hb1 HX HP HB0
  go_wp2_with fail
  refine (HQ.out _).mono ?_
  rintro e w2 ⟨rfl, hb2⟩
  have HX2 := Lib.hid (HX1.out.below hb2 HX1.out.2.2)
  have HB2 : Hid (Below w.heap.size w w2) := Lib.hid (HB1.out.trans (hb2.mono HB1.out.size))
  have HN := Lib.hid (dv_new 2 w2 (by omega) (by omega))
  clear hb2 HQ HB1 c0 c1 c2' c3 HX1
  go_wp2_with fail
  refine HN.out.mono ?_
  rintro e w3 ⟨rfl, hD3, hb3⟩
  have HG : Hid (Calls Tryd.prog 15 #[.pointer (some ⟨w2.heap.size, 0, none⟩), .int .i64 2] w3 fun e w' => e = .returned (.int .i64 0) ∧ ∃ F', Dv w2.heap.size w2.heap.size 2 true false 0 [page0, page0] [page0, page0] [] F' w' ∧ Step (fun k => k = w2.heap.size) F' w3 w') := Lib.hid (dv_grow 2 hD3 (by simp) (by omega) (by omega))
  have HBZ : Hid (∀ F W, Step (fun k => k = w2.heap.size) F w3 W → Below w2.heap.size w2 W) := Lib.hid (fun F W h => hb3.trans (h.1.below hD3.bsz (fun i hi => by have : i = w2.heap.size := hi; omega)))
  have HXZ : Hid (∀ W, Below w2.heap.size w2 W → Boxes w.heap.size m.txn m.root m.free m.pages ((m.txn : Int) + 1) nx.root nx.free nx.pages W) := Lib.hid (fun W h => HX2.out.below h HX2.out.2.2)
  clear hD3 hb3 HN HX2
  go_wp2_with fail
  refine HG.out.mono ?_
  rintro e w4 ⟨rfl, F4, hD4, hS4⟩
  have HW := Lib.hid (HWM.out _ _ _ _ _ _ hD4 (by simp))
  obtain ⟨c0, c1, c2', c3⟩ := (HXZ.out _ (HBZ.out _ _ hS4)).1.cells
  have HS4 := Lib.hid hS4
  clear hD4 hS4 HG HWM
  go_wp2_with fail
  refine HW.out.mono ?_
  rintro e w5 ⟨rfl, F5, hD5, hS5⟩
  have HY := Lib.hid (dv_sync hD5)
  have HS5 := Lib.hid (HS4.out.trans hS5)
  clear hD5 hS5 HW HS4 c0 c1 c2' c3
  go_wp2_with fail
  refine HY.out.mono ?_
  rintro e w6 ⟨rfl, F6, hD6, hS6⟩
  have HW := Lib.hid (HWN.out _ _ _ _ _ _ hD6 (by simp))
  have HS6 := Lib.hid (HS5.out.trans hS6)
  obtain ⟨c0, c1, c2', c3⟩ := (HXZ.out _ (HBZ.out _ _ HS6.out)).2.1.cells
  clear hD6 hS6 HS5 HWN HY
  go_wp2_with fail
  refine HW.out.mono ?_
  rintro e w7 ⟨rfl, F7, hD7, hS7⟩
  have HS7 := Lib.hid (HS6.out.trans hS7)
  have HC : Hid (Calls Tryd.prog 23 #[.pointer (some ⟨w2.heap.size, 0, none⟩), .slice (some ⟨w7.heap.size, 0, none⟩) 1 1] (w7.alloc (.cells #[.int .i64 keep] 3)) fun e w' => e = .returned (.tuple #[]) ∧ ∃ F', Dv w2.heap.size w2.heap.size 2 false false 0 (crashL (([page0, page0] : List ByteArray).set (m.txn % 2) (metaP m)) [(((nx.txn % 2 : Nat) : Int), metaP nx)] [keep] 1) (crashL (([page0, page0] : List ByteArray).set (m.txn % 2) (metaP m)) [(((nx.txn % 2 : Nat) : Int), metaP nx)] [keep] 1) [] F' w' ∧ Step F7 F' (w7.alloc (.cells #[.int .i64 keep] 3)) w') := Lib.hid (dv_crash (some ⟨w7.heap.size, 0, none⟩) 1 1 [keep] (hD7.keep ((Fr.refl (fun _ => False) w7).alloc (.cells #[.int .i64 keep] 3)) (fun _ _ h => h)) (rd_one w7 keep) (fun _ a ha hF => by
      injection ha with ha
      subst ha
      have := hD7.lt _ hF
      exact Nat.lt_irrefl _ this) (by omega))
  have HS8 : Hid (Step (fun k => k = w2.heap.size) F7 w3 (w7.alloc (.cells #[.int .i64 keep] 3))) := Lib.hid (HS7.out.trans ⟨(Fr.refl _ w7).alloc _, fun k h => .inl h⟩)
  clear hD7 hS7 HW HS6 c0 c1 c2' c3 HS7
  go_wp2_with fail
  refine HC.out.mono ?_
  rintro e w8 ⟨rfl, F8, hD8, hS8⟩
  have HR := Lib.hid (dv_restore hD8 (by omega))
  have HS9 := Lib.hid (HS8.out.trans hS8)
  have HF := Lib.hid hD8.here
  clear hD8 hS8 HC HS8
  go_wp2_with fail
  refine HR.out.mono ?_
  rintro e w9 ⟨rfl, hD9, hF9⟩
  have HS10 := Lib.hid (HS9.out.trans (Step.sub hF9 HF.out))
  obtain ⟨x, hx, hc⟩ := HCH.out _ _ _ _ hD9
  have HX := Lib.hid hx
  have HC := Lib.hid hc
  clear hD9 hF9 HR HS9 HF hx hc HCH
  unfold mtv at HC
  go_wp2_with fail
  refine HC.out.mono ?_
  rintro e w10 ⟨rfl, hb10⟩
  have HBA : Hid (∀ a, Below w2.heap.size w2 (w10.alloc a)) := Lib.hid (fun a => ((HBZ.out _ _ HS10.out).trans (hb10.mono (HBZ.out _ _ HS10.out).size)).alloc (Nat.le_trans (HBZ.out _ _ HS10.out).size hb10.size) a)
  have HXX := Lib.hid (Box.fresh w10 x.txn x.root x.free x.pages)
  clear hb10 HS10 HBZ HC
  go_wp2_with fail
  refine (HA.out _).mono ?_
  rintro e w11 ⟨rfl, hb11⟩
  obtain ⟨c0, c1, c2', c3⟩ := ((HXZ.out _ (HBA.out _)).below hb11 (HXZ.out _ (HBA.out _)).2.2).1.cells
  obtain ⟨d0, d1, d2, d3⟩ := ((HXZ.out _ (HBA.out _)).below hb11 (HXZ.out _ (HBA.out _)).2.2).2.1.cells
  obtain ⟨e0, e1, e2, e3⟩ := (HXX.out.below hb11 (by simp)).cells
  have HBE : Hid (Below w.heap.size w w11) := Lib.hid (HB2.out.trans (((HBA.out _).trans (hb11.mono (HBA.out _).size)).mono HB2.out.size))
  clear hb11 HBA HXZ HXX HA HB2
  obtain ⟨hx1, hx2, hx3⟩ := HX.out
  rcases hx1 with rfl | rfl
  · have hu : (bits .and .i64 keep 129 != 129) = true := by
      rw [bne_iff_ne]
      exact fun e => HMN.out (hx2 e)
    clear hx2 hx3 HX d0 d1 d2 d3 HT
    cases hv : (bits .and .i64 keep 255 != 0) with
    | true =>
      go_wp2
      go_ret
      exact ⟨rfl, HBE.out⟩
    | false =>
      go_wp2
      go_ret
      exact ⟨rfl, HBE.out⟩
  · have hv : (bits .and .i64 keep 255 != 0) = true := by
      rw [bne_iff_ne]
      exact fun e => HMN.out (hx3 e).symm
    have HT' := HT.out
    rw [HT'] at e0
    have hne : ((m.txn : Int) == (m.txn : Int) + 1) = false := by rw [beq_eq_false_iff_ne]; omega
    have hne2 : ((m.txn : Int) + 1 == (m.txn : Int)) = false := by rw [beq_eq_false_iff_ne]; omega
    clear hx2 hx3 HX HT HT'
    cases hu : (bits .and .i64 keep 129 != 129) with
    | true =>
      go_wp2
      go_ret
      exact ⟨rfl, HBE.out⟩
    | false =>
      go_wp2
      go_ret
      exact ⟨rfl, HBE.out⟩
end Go.Proofs.YtpoiopjggmhnjaaDoor
