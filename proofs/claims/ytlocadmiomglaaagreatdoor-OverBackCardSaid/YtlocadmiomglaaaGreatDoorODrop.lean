/- over.Drop of a chain; of no pager. -/
import Derived.Test.YtlocadmiomglaaaGreatDoorOGet
namespace Go.Proofs.YtlocadmiomglaaaGreatDoor
open Go.RowKit Go.Maps Go.Conc

set_option maxRecDepth 100000 in
theorem over_drop_none (id n : Int) (w : World) : Calls Tryz.prog 11 #[.pointer none, .int .i64 id, .int .i64 n] w fun e w' => e = .returned (.int .i64 1) ∧ w' = w := by
  have H := Lib.hid (over_pages (w := w) (.pointer none) (.int .i64 id) (.int .i64 n) (.int .i64 1) (fun u w' => u = .slice none 0 0 ∧ w' = w) ((walk_none id n w).mono (fun e w' h => ⟨_, _, h.1, rfl, h.2⟩)))
  go_enter Tryz.func11, Tryz.ntmps11
  go_wp2_with fail
  refine H.out.mono ?_
  rintro e w1 ⟨u, rfl, rfl, rfl⟩
  go_wp2
  go_loopw [20] (fun iv wr => iv = .int .i64 0 ∧ wr = w1) (fun _ _ => 0)
  case atStart => exact ⟨rfl, rfl⟩
  case round =>
    obtain ⟨rfl, rfl⟩ := hrel
    go_wp2
    go_ret
    exact ⟨rfl, rfl⟩

section
variable {pb base : Nat} {s : PgS} {U : Nat → Prop} {w w' : World} {m k : Nat}

/-- What Drop of the pages L leaves. -/
structure DropS (m kk : Nat) (s s' : PgS) (L : List Int) : Prop where
  ov : OvJ m kk s'
  pages : s'.pages = s.pages
  sp : s'.sp.length = s.sp.length + L.length
  A : ∀ x, x ∈ s'.A ↔ x ∈ s.A ∧ x.1 ∉ L
  W : ∀ i ∈ L, i ∈ s'.W

theorem DropS.zero (hJ : OvJ m k s) : DropS m k s s [] := ⟨hJ, rfl, rfl, fun x => by simp, fun i h => by cases h⟩
theorem DropS.next {kk : Nat} {s1 s2 : PgS} {L : List Int} {id : Int} (h : DropS m kk s s1 L) (hJ : OvJ m (kk + 1) s2) (hA : s2.A = ridA id s1.A) (hp : s2.pages = s1.pages) (hs : s2.sp.length = s1.sp.length + 1) (hW : s2.W = id :: rid id s1.W) : DropS m (kk + 1) s s2 (L ++ [id]) := by
  refine ⟨hJ, hp.trans h.pages, ?_, fun x => ?_, fun i hi => ?_⟩
  · rw [hs, h.sp, List.length_append]
    rfl
  · rw [hA, mem_ridA, h.A]
    simp only [List.mem_append, List.mem_singleton, not_or]
    exact and_assoc
  · rw [hW]
    rcases List.mem_append.1 hi with hi | hi
    · by_cases e : i = id
      · rw [e]; exact List.mem_cons_self
      · exact List.mem_cons_of_mem _ (mem_rid.2 ⟨h.W i hi, e⟩)
    · have hi : i = id := by simpa using hi
      rw [hi]
      exact List.mem_cons_self

set_option maxHeartbeats 2000000 in
set_option maxRecDepth 100000 in
theorem over_drop (h : Pg pb base s U w) (hJ : OvJ m k s) (hm : m ≤ 3000) (hk : k ≤ 100000) {is : List Int} {v : ByteArray} (hc : Chain s.A is (cutL v)) (hnd : is.Nodup) (hv1 : 1 ≤ v.size) (hv2 : v.size ≤ 2000) :
    Calls Tryz.prog 11 #[.pointer (some ⟨pb, 0, none⟩), .int .i64 (is.headD 0), .int .i64 v.size] w fun e w' => e = .returned (.int .i64 0) ∧ ∃ s' U', Pg pb base s' U' w' ∧ Step U U' w w' ∧ DropS m (k + cutN v) s s' is := by
  have hl := hc.1
  rw [cutL_length] at hl
  have HLN := Lib.hid hl
  have hn9 : cutN v ≤ 9 := by unfold cutN; omega
  have hpos : 0 < cutN v := (cut_lt v 0).2 (by omega)
  have hwk : Calls Tryz.prog 36 #[.pointer (some ⟨pb, 0, none⟩), .int .i64 (is.headD 0), .int .i64 v.size] w fun e w' => ∃ u str, e = .returned (.tuple #[u, str, .int .i64 0]) ∧ (w'.ownsRow w.heap.size 3 1 u (cutN v) (is.map (Value.int .i64)) ∧ Below w.heap.size w w') := by
    refine (walk_chain h hJ hm hc hv1 hv2).mono ?_
    rintro e w' ⟨u, h1, h2, h3⟩
    exact ⟨u, _, h1, h2, h3⟩
  have H := Lib.hid (over_pages (T := fun u w' => w'.ownsRow w.heap.size 3 1 u (cutN v) (is.map (Value.int .i64)) ∧ Below w.heap.size w w') _ _ _ _ hwk)
  clear hwk
  have HU := Lib.hid h.lt
  have HP := Lib.hid h
  have HND := Lib.hid hnd
  have HD0 := Lib.hid (DropS.zero hJ)
  have HK : Hid (∀ i ∈ is, i ∈ kys s) := Lib.hid (fun i hi => by
    rw [← entOf_keys hc.1] at hi
    obtain ⟨x, hx, rfl⟩ := List.mem_map.1 hi
    exact List.mem_map.2 ⟨x, hc.2 x hx, rfl⟩)
  clear h hJ hc hl hv1 hv2 hnd
  generalize is.headD 0 = hd at *
  go_enter Tryz.func11, Tryz.ntmps11
  go_wp2_with fail
  refine H.out.mono ?_
  rintro e w1 ⟨u, rfl, ho, hb1⟩
  obtain ⟨g, cap, rfl, hg1, hg2, _⟩ := owns_len ho hpos
  have HO := Lib.hid ho
  have HB1 := Lib.hid hb1
  have HPos := Lib.hid hpos
  have HG : Hid (w.heap.size ≤ g ∧ g < w1.heap.size) := Lib.hid ⟨hg1, hg2⟩
  have HP1 : Hid (Pg pb base s U w1) := Lib.hid (HP.out.below hb1)
  clear ho hb1 HP H hpos hg1 hg2
  go_wp2
  go_loopw [20] (fun iv wr => ∃ j : Nat, j ≤ cutN v ∧ iv = .int .i64 j ∧ ∃ s' U', Hid (Pg pb base s' U' wr ∧ Step U U' w1 wr ∧ DropS m (k + j) s s' (is.take j))) (fun iv _ => cutN v - (intOf iv).toNat)
  case atStart => exact ⟨0, Nat.zero_le _, rfl, s, U, Lib.hid ⟨HP1.out, Step.refl _ _, HD0.out⟩⟩
  case round =>
    obtain ⟨j, hj, rfl, s1, U1, HH⟩ := hrel
    by_cases hlt : j < cutN v
    · have hjl : j < is.length := by rw [HLN.out]; exact hlt
      have hcell : wr.cell? ⟨g, j, none⟩ = some (.int .i64 is[j]) := by
        have e := HO.out.cells (g := g) rfl j (.int .i64 is[j]) (by rw [List.getElem?_map, List.getElem?_eq_getElem hjl]; rfl)
        have e2 : ((⟨g, 0, none⟩ : Addr).add j) = ⟨g, j, none⟩ := by rw [add_at, Nat.zero_add]
        rw [e2] at e
        exact (HH.out.2.1.1.cell (p := ⟨g, j, none⟩) HG.out.2 (fun hu => by have := HU.out g hu; have := HG.out.1; omega)).trans e
      have HTK : Hid (is.take (j + 1) = is.take j ++ [is[j]]) := Lib.hid (List.take_succ_eq_append_getElem hjl)
      have HKY : Hid (is[j] ∈ kys s1) := Lib.hid (by
        obtain ⟨x, hx, hx2⟩ := List.mem_map.1 (HK.out is[j] (List.getElem_mem hjl))
        refine List.mem_map.2 ⟨x, (HH.out.2.2.A x).2 ⟨hx, fun hin => ?_⟩, hx2⟩
        rw [hx2] at hin
        obtain ⟨i, hi1, hi2⟩ := List.mem_take_iff_getElem.1 hin
        have := (List.getElem_inj HND.out).1 hi2
        omega)
      have HDR := Lib.hid (ov_drop HH.out.1 HH.out.2.2.ov hm (by omega) HKY.out)
      have HNX : Hid (∀ (s2 : PgS) (U2 : Nat → Prop) (w2 : World), OvJ m (k + j + 1) s2 → s2.A = ridA is[j] s1.A → s2.pages = s1.pages → s2.sp.length = s1.sp.length + 1 → s2.W = is[j] :: rid is[j] s1.W → Pg pb base s2 U2 w2 → Step U1 U2 wr w2 → Pg pb base s2 U2 w2 ∧ Step U U2 w1 w2 ∧ DropS m (k + (j + 1)) s s2 (is.take (j + 1))) := Lib.hid (fun s2 U2 w2 a1 a2 a3 a4 a5 a6 a7 => ⟨a6, HH.out.2.1.trans a7, by rw [HTK.out]; exact HH.out.2.2.next a1 a2 a3 a4 a5⟩)
      have hltI : (j : Int) < (cutN v : Int) := by omega
      clear HH HTK HKY
      generalize is[j] = id at *
      go_wp2_with fail
      refine HDR.out.mono ?_
      rintro e w2 ⟨rfl, s2, U2, a1, a2, a3, a4, a5, a6, a7⟩
      have HN2 := Lib.hid (HNX.out s2 U2 w2 a1 a2 a3 a4 a5 a6 a7)
      clear a1 a2 a3 a4 a5 a6 a7 HDR HNX hcell
      go_wp2
      go_roundw
      case rel => exact ⟨j + 1, by omega, by simp, s2, U2, HN2⟩
      case measure => simp [intOf]; omega
    · obtain rfl : j = cutN v := by omega
      have hge : ¬ ((cutN v : Int) < (cutN v : Int)) := by omega
      have htk : is.take (cutN v) = is := List.take_of_length_le (by rw [HLN.out]; exact Nat.le_refl _)
      rw [htk] at HH
      clear htk
      go_wp2
      go_ret
      exact ⟨rfl, s1, U1, HH.out.1, (Step.still HB1.out).trans HH.out.2.1, HH.out.2.2⟩
end
end Go.Proofs.YtlocadmiomglaaaGreatDoor
