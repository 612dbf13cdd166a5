/- over.walk over a chain. -/
import Derived.Test.YtlocadmiomglaaaGreatDoorOWalkL
import Derived.Test.YtlocadmiomglaaaGreatDoorOBd
import Derived.OwnWalk
namespace Go.Proofs.YtlocadmiomglaaaGreatDoor
open Go.RowKit Go.Maps Go.Conc

section
variable {pb base : Nat} {s : PgS} {U : Nat → Prop} {w w' : World} {m k : Nat}

theorem page_wf {t : Int} (h1 : 2 ≤ t) (h2 : t < 1000000) : (Lit.int .i64 t).wf = true := int_wf (by omega) (by omega)

/-- The j-th page of a chain is read as it was made. -/
theorem chain_read (h : Pg pb base s U w) (hJ : OvJ m k s) (hm : m ≤ 3000) {is : List Int} {v : ByteArray} (hc : Chain s.A is (cutL v)) (j : Nat) (hj : j < cutN v) :
    Calls Tryz.prog 112 #[.pointer (some ⟨pb, 0, none⟩), .int .i64 (HL.el is j)] w fun e w' => e = .returned (.tuple #[pgv 4 ((is.drop (j + 1)).headD 0) (pieceAt v j), .int .i64 0]) ∧ Below w.heap.size w w' := by
  have hl := hc.1
  rw [cutL_length] at hl
  have hin := hc.at j (by omega)
  rw [cut_at v j hj] at hin
  have hk : HL.el is j ∈ s.A.map (·.1) := List.mem_map.2 ⟨_, hin, rfl⟩
  obtain ⟨h2, hp⟩ := hJ.keys _ hk
  have h3 := hJ.nwp
  have h4 := hJ.nwm
  exact pg_read_made _ _ _ _ h (page_wf h2 (by omega)) h2 hp hk (fun v' hv' => val_uniq hJ.knd hv' hin)

set_option maxHeartbeats 4000000 in
set_option maxRecDepth 100000 in
theorem walk_chain (h : Pg pb base s U w) (hJ : OvJ m k s) (hm : m ≤ 3000) {is : List Int} {v : ByteArray} (hc : Chain s.A is (cutL v)) (hv1 : 1 ≤ v.size) (hv2 : v.size ≤ 2000) :
    Calls Tryz.prog 36 #[.pointer (some ⟨pb, 0, none⟩), .int .i64 (is.headD 0), .int .i64 v.size] w fun e w' => ∃ u, e = .returned (.tuple #[u, .string v, .int .i64 0]) ∧ w'.ownsRow w.heap.size 3 1 u (cutN v) (is.map (Value.int .i64)) ∧ Below w.heap.size w w' := by
  obtain ⟨i0, hi0, hz0, hz1, hz2⟩ := info_parts info_int
  have hl := hc.1
  rw [cutL_length] at hl
  have HLN := Lib.hid hl
  have HRD : Hid (∀ W, Below w.heap.size w W → ∀ j, j < cutN v → Calls Tryz.prog 112 #[.pointer (some ⟨pb, 0, none⟩), .int .i64 (HL.el is j)] W fun e w' => e = .returned (.tuple #[.agg #[.int .i64 4, .int .i64 ((is.drop (j + 1)).headD 0), .string (pieceAt v j)], .int .i64 0]) ∧ Below W.heap.size W w') :=
    Lib.hid (fun W hW j hj => chain_read (h.below hW) hJ hm hc j hj)
  have HNX : Hid (∀ j, j < cutN v → (((is.drop (j + 1)).headD 0 = 0) ↔ cutN v ≤ j + 1) ∧ (j + 1 < cutN v → (is.drop (j + 1)).headD 0 = HL.el is (j + 1))) := Lib.hid (fun j hj => by
    have hpos : ∀ i ∈ is, (2 : Int) ≤ i := fun i hi => by
      rw [← entOf_keys hc.1] at hi
      obtain ⟨x, hx, rfl⟩ := List.mem_map.1 hi
      exact (hJ.keys _ (List.mem_map.2 ⟨x, hc.2 x hx, rfl⟩)).1
    have := chain_next hpos j
    rw [hl] at this
    exact this)
  have HPOS : Hid (0 < cutN v) := Lib.hid ((cut_lt v 0).2 (by omega))
  have hhd : is.headD 0 = HL.el is 0 := by
    cases is with
    | nil => have := HPOS.out; have := HLN.out; simp at this; omega
    | cons a r => rfl
  rw [hhd]
  have HV2 := Lib.hid hv2
  have g1 : ¬ ((v.size : Int) < 1) := by omega
  have g2 : ¬ ((2000 : Int) < (v.size : Int)) := by omega
  have HB0 := Lib.hid (bd_new w)
  clear h hJ hc hl hhd hv1 hv2
  go_enter Tryz.func36, Tryz.ntmps36
  go_wp2
  go_loopw [9, 11] (fun tv iv wr => ∃ j : Nat, j < cutN v ∧ iv = .int .i64 (HL.el is j) ∧ Hid (wr.ownsRow w.heap.size 3 1 tv j ((is.take j).map (Value.int .i64))) ∧ Hid (Bd w.heap.size w.heap.size (sofar v j) wr) ∧ Hid (Below w.heap.size w wr)) (fun tv _ _ => match tv with | .slice _ j _ => cutN v - j | _ => 0)
  case atStart => exact ⟨0, HPOS.out, rfl, Lib.hid (World.ownsRow_nil _ _ _ _), Lib.hid (by rw [sofar_zero]; exact HB0.out), Lib.hid ((Below.refl _ w).alloc (Nat.le_refl _) _)⟩
  case round =>
    clear HB0 HPOS
    obtain ⟨j, hj, rfl, ho, hbd, hb⟩ := hrel
    obtain ⟨fp, fc, rfl⟩ := owns_slice ho.out
    have HJ := Lib.hid hj
    have hbs := hb.out.size
    have hlt := (cut_lt v j).1 hj
    have hszp := piece_size v j
    have hlen := sofar_length v j (by omega)
    have hnx := (HNX.out j hj)
    have hsu := sofar_succ v j
    go_wp2_with fail
    refine ((HRD.out wr hb.out j hj)).mono ?_
    rintro e w1 ⟨rfl, hb1⟩
    generalize (is.drop (j + 1)).headD 0 = nx at *
    generalize pieceAt v j = x at *
    have hal : Below w1.heap.size w1 (w1.alloc (.cells #[.int .i64 4, .int .i64 nx, .string x] 67)) := (Below.refl _ w1).alloc (Nat.le_refl _) _
    have hb2 : Below wr.heap.size wr (w1.alloc (.cells #[.int .i64 4, .int .i64 nx, .string x] 67)) := hb1.trans (hal.mono hb1.size)
    have HBD2 := Lib.hid (hbd.out.keep hb2)
    have HO2 : Hid ((w1.alloc (.cells #[.int .i64 4, .int .i64 nx, .string x] 67)).ownsRow w.heap.size 3 1 (.slice fp j fc) j ((is.take j).map (Value.int .i64))) := Lib.hid ((Fr.of_all (S := fun _ => False) hb2).owns ho.out (fun _ _ h => h))
    have HB2 := Lib.hid (hb.out.trans (hb2.mono hb.out.size))
    have hle := bd_len _ _ _ _ HBD2.out
    rw [hlen] at hle
    have HLE := Lib.hid hle
    clear hle
    have hsz2 := HB2.out.size
    have hpl : w.heap.size < w1.heap.size := by have := hbd.out.lt; have := hb1.size; omega
    have hrow := heap_alloc_new w1 (.cells #[.int .i64 4, .int .i64 nx, .string x] 67)
    have hx : ∀ k u, (#[Value.int .i64 4, .int .i64 nx, .string x])[k]? = some u → (w1.alloc (.cells #[.int .i64 4, .int .i64 nx, .string x] 67)).cell? ⟨w1.heap.size, k, none⟩ = some u := fun k u hu => by
      rw [cell_of_row _ _ _ _ _ _ hrow]; exact hu
    have x0 : (w1.alloc (.cells #[.int .i64 4, .int .i64 nx, .string x] 67)).cell? ⟨w1.heap.size, 0, none⟩ = some (.int .i64 4) := hx 0 _ rfl
    have x1 : (w1.alloc (.cells #[.int .i64 4, .int .i64 nx, .string x] 67)).cell? ⟨w1.heap.size, 1, none⟩ = some (.int .i64 nx) := hx 1 _ rfl
    have x2 : (w1.alloc (.cells #[.int .i64 4, .int .i64 nx, .string x] 67)).cell? ⟨w1.heap.size, 2, none⟩ = some (.string x) := hx 2 _ rfl
    have HROW := Lib.hid hrow
    have hz2' : (w1.alloc (.cells #[.int .i64 4, .int .i64 nx, .string x] 67)).heap.size = w1.heap.size + 1 := by simp
    have HZ2 := Lib.hid hz2'
    have hts : (is.take (j + 1)).map (Value.int .i64) = (is.take j).map (Value.int .i64) ++ [.int .i64 (HL.el is j)] := by
      have h9 : j < is.length := by have := HLN.out; omega
      rw [List.take_succ_eq_append_getElem h9, List.map_append]
      simp [HL.el, h9]
    have HTS := Lib.hid hts
    have hws := bd_string_k _ _ _ x _ HBD2.out (by rw [hlen]; have := HV2.out; omega) (by rw [hz2']; omega)
    rw [hsu] at hws
    have HWS := Lib.hid hws
    clear hb1 hal hb2 ho hbd hb hbs hrow hx hts hws hsu hlen
    go_wp2_with fail
    refine HLE.out.mono ?_
    rintro e w3 ⟨rfl, rfl⟩
    have hqb : ¬ bytesOr w.heap.size (w1.alloc (.cells #[.int .i64 4, .int .i64 nx, .string x] 67)) w1.heap.size := by
      rintro (h9 | ⟨c, fz, h9⟩)
      · omega
      · rw [HROW.out] at h9
        injection h9 with h9
        injection h9 with _ h9
        exact absurd h9 (by decide)
    have HKEEP : Hid (∀ W, Bd w.heap.size w.heap.size (sofar v (j + 1)) W → Below w.heap.size (w1.alloc (.cells #[.int .i64 4, .int .i64 nx, .string x] 67)) W → Fr (bytesOr w.heap.size (w1.alloc (.cells #[.int .i64 4, .int .i64 nx, .string x] 67))) (w1.alloc (.cells #[.int .i64 4, .int .i64 nx, .string x] 67)) W → W.ownsRow w.heap.size 3 1 (.slice fp j fc) j ((is.take j).map (Value.int .i64)) ∧ W.cell? ⟨w1.heap.size, 1, none⟩ = some (.int .i64 nx) ∧ (∀ k, (Value.slice fp j fc).ownBlock = some k → k ≠ w1.heap.size)) := Lib.hid (fun W hB9 hb9 hF9 => by
      refine ⟨hF9.owns HO2.out (ints_beside HBD2.out HO2.out), (hF9.cell (p := ⟨w1.heap.size, 1, none⟩) (by show w1.heap.size < _; omega) hqb).trans x1, fun k hk e => ?_⟩
      subst e
      obtain ⟨c, fz, h9⟩ := Lib.ownsRow_kind HO2.out _ hk
      rw [HROW.out] at h9
      injection h9 with h9
      injection h9 with _ h9
      exact absurd h9 (by decide))
    clear hqb
    by_cases hlast : v.size - 240 * j ≤ 240
    · have hL : (x.size : Int) = (v.size : Int) - 240 * (j : Int) := by omega
      have HN0 : Hid (nx = 0) := Lib.hid (hnx.1.2 (by unfold cutN; omega))
      have hnb : (nx == 0) = true := by rw [HN0.out]; rfl
      have hg1 : decide ((v.size : Int) - 240 * (j : Int) ≤ 240) = true := decide_eq_true (by omega)
      have hmin : min ((v.size : Int) - 240 * (j : Int)) 240 = (v.size : Int) - 240 * (j : Int) := by omega
      clear hszp
      go_wp2_with fail
      refine HWS.out.mono ?_
      rintro e w4 ⟨rfl, hbd4, hb4, hF4⟩
      obtain ⟨ho4, hx4, hne⟩ := HKEEP.out w4 hbd4 hb4 hF4
      have HO4 := Lib.hid ho4
      have HBD4 := Lib.hid hbd4
      have HB4 := Lib.hid (HB2.out.trans (hb4.mono (by omega)))
      have hs4 := HB4.out.size
      have hq4 : w1.heap.size < w4.heap.size := by have := hb4.size; rw [HZ2.out] at this; omega
      have HX5 : Hid (∀ (o : Obj) (w5 : World), (w4.alloc o).grownBy w5 (Value.slice fp j fc).ownBlock → w5.cell? ⟨w1.heap.size, 1, none⟩ = some (.int .i64 nx)) := Lib.hid (fun o w5 hgr => by
        have hF : Fr (fun k => (Value.slice fp j fc).ownBlock = some k) w4 w5 := Fr.trans ((Fr.refl (fun k => (Value.slice fp j fc).ownBlock = some k) w4).alloc o) (Fr.of_grown (S := fun k => (Value.slice fp j fc).ownBlock = some k) hgr (fun i _ e => e)) (fun _ h _ => h)
        exact (hF.cell (p := ⟨w1.heap.size, 1, none⟩) hq4 (fun e => hne _ e rfl)).trans hx4)
      clear ho4 hbd4 hb4 hF4 HKEEP hne
      go_wp2_with (first
        | (at_builtin; refine wpList_append_lies _ rfl _ _ 27 rfl w.heap.size 3 i0 _ 1 8 Tryz.underlying27 hi0 hz0 hz1 hz2 rfl (by omega) _ j ((is.take j).map (Value.int .i64)) rfl ?own ⟨w4.heap.size, 0, none⟩ 1 1 [.int .i64 (HL.el is j)] rfl rfl ?cells ?one (by omega) ?len ?bytes ?base (w4.heap.size + 1) (by simp) ?_; (case own => exact HO4.out.alloc _); (case cells => exact new_cells w4 _ _); (case one => simp [Value.oneCell']); (case len => unfold maxLen; omega); (case bytes => omega); (case base => simp; omega); intro g cap w5 hown hgr hat hg
           have HBD5 := Lib.hid (bd_beside (HBD4.out.keep ((Below.refl _ w4).alloc (Nat.le_refl _) (.cells #[.int .i64 (HL.el is j)] 3))) (HO4.out.alloc (.cells #[.int .i64 (HL.el is j)] 3)) hgr)
           have HB5 : Hid (Below w.heap.size w w5) := Lib.hid ((HB4.out.alloc HB4.out.size _).grown hgr (by simp; omega) (fun k hk => (HO4.out.lt k hk).1))
           have HO5 : Hid (w5.ownsRow w.heap.size 3 1 (.slice (some ⟨g, 0, none⟩) (j + 1) cap) (j + 1) ((is.take (j + 1)).map (Value.int .i64))) := Lib.hid (by rw [HTS.out]; exact hown)
           have hx5 : w5.cell? ⟨w1.heap.size, 1, none⟩ = some (.int .i64 nx) := HX5.out _ _ hgr
           clear hown hgr hat hg)
        | fail)
      have hst := bd_all_k _ _ _ _ HBD5.out (by have := HB5.out.size; omega)
      rw [sofar_all v (j + 1) (by omega)] at hst
      have HST := Lib.hid hst
      have hfin : (is.take (j + 1)).map (Value.int .i64) = is.map (Value.int .i64) := by
        have := HLN.out
        rw [List.take_of_length_le (by unfold cutN at this; omega)]
      have hjc : j + 1 = cutN v := by unfold cutN; omega
      rw [hfin, hjc] at HO5
      clear hst hfin
      refine HST.out.mono ?_
      rintro e w6 ⟨rfl, hbd6, hb6, hF6⟩
      have HO6 : Hid (w6.ownsRow w.heap.size 3 1 (.slice (some ⟨g, 0, none⟩) (cutN v) cap) (cutN v) (is.map (Value.int .i64))) := Lib.hid (hF6.owns HO5.out (ints_beside HBD5.out HO5.out))
      have HB6 := Lib.hid (HB5.out.trans hb6)
      clear hb6 hbd6 hF6
      go_wp2
      (try simp only [Exit.inBlock, Exit.then])
      refine bodyPost_ret (results_tmp3 rfl _ _ _) rfl ?_
      exact ⟨_, rfl, by (try rw [hjc]); exact HO6.out, HB6.out⟩
    · have hL : (x.size : Int) = 240 := by omega
      have hnb : (nx == 0) = false := by
        have hn9 : ¬ nx = 0 := fun h => by have := hnx.1.1 h; unfold cutN at this; omega
        simpa using hn9
      have hg1 : decide ((v.size : Int) - 240 * (j : Int) ≤ 240) = false := decide_eq_false (by omega)
      have hmin : min ((v.size : Int) - 240 * (j : Int)) 240 = 240 := by omega
      clear hszp
      go_wp2_with fail
      refine HWS.out.mono ?_
      rintro e w4 ⟨rfl, hbd4, hb4, hF4⟩
      obtain ⟨ho4, hx4, hne⟩ := HKEEP.out w4 hbd4 hb4 hF4
      have HO4 := Lib.hid ho4
      have HBD4 := Lib.hid hbd4
      have HB4 := Lib.hid (HB2.out.trans (hb4.mono (by omega)))
      have hs4 := HB4.out.size
      have hq4 : w1.heap.size < w4.heap.size := by have := hb4.size; rw [HZ2.out] at this; omega
      have HX5 : Hid (∀ (o : Obj) (w5 : World), (w4.alloc o).grownBy w5 (Value.slice fp j fc).ownBlock → w5.cell? ⟨w1.heap.size, 1, none⟩ = some (.int .i64 nx)) := Lib.hid (fun o w5 hgr => by
        have hF : Fr (fun k => (Value.slice fp j fc).ownBlock = some k) w4 w5 := Fr.trans ((Fr.refl (fun k => (Value.slice fp j fc).ownBlock = some k) w4).alloc o) (Fr.of_grown (S := fun k => (Value.slice fp j fc).ownBlock = some k) hgr (fun i _ e => e)) (fun _ h _ => h)
        exact (hF.cell (p := ⟨w1.heap.size, 1, none⟩) hq4 (fun e => hne _ e rfl)).trans hx4)
      clear ho4 hbd4 hb4 hF4 HKEEP hne
      go_wp2_with (first
        | (at_builtin; refine wpList_append_lies _ rfl _ _ 27 rfl w.heap.size 3 i0 _ 1 8 Tryz.underlying27 hi0 hz0 hz1 hz2 rfl (by omega) _ j ((is.take j).map (Value.int .i64)) rfl ?own ⟨w4.heap.size, 0, none⟩ 1 1 [.int .i64 (HL.el is j)] rfl rfl ?cells ?one (by omega) ?len ?bytes ?base (w4.heap.size + 1) (by simp) ?_; (case own => exact HO4.out.alloc _); (case cells => exact new_cells w4 _ _); (case one => simp [Value.oneCell']); (case len => unfold maxLen; omega); (case bytes => omega); (case base => simp; omega); intro g cap w5 hown hgr hat hg
           have HBD5 := Lib.hid (bd_beside (HBD4.out.keep ((Below.refl _ w4).alloc (Nat.le_refl _) (.cells #[.int .i64 (HL.el is j)] 3))) (HO4.out.alloc (.cells #[.int .i64 (HL.el is j)] 3)) hgr)
           have HB5 : Hid (Below w.heap.size w w5) := Lib.hid ((HB4.out.alloc HB4.out.size _).grown hgr (by simp; omega) (fun k hk => (HO4.out.lt k hk).1))
           have HO5 : Hid (w5.ownsRow w.heap.size 3 1 (.slice (some ⟨g, 0, none⟩) (j + 1) cap) (j + 1) ((is.take (j + 1)).map (Value.int .i64))) := Lib.hid (by rw [HTS.out]; exact hown)
           have hx5 : w5.cell? ⟨w1.heap.size, 1, none⟩ = some (.int .i64 nx) := HX5.out _ _ hgr
           clear hown hgr hat hg)
        | fail)
      go_roundw
      case rel => exact ⟨j + 1, by unfold cutN; omega, by rw [hnx.2 (by unfold cutN; omega)], HO5, HBD5, HB5⟩
      case measure => simp; omega
end
end Go.Proofs.YtlocadmiomglaaaGreatDoor
