/- Merged texts: SortK LayN NetF Sel Shelf NetC NetG HeapR. -/
import Derived.Test.YthdpajgnigilhaaQ1
import Derived.Shelf.GgSortFunc.RowK
import Derived.Shelf.GgSortFunc.InsertionK
import Derived.Sort.OwnSorted
import Derived.Shelf.SlGeneric
import Derived.Shelf.SlSortCmp.WholeK
import Derived.Shelf.SlicesQ.IndexFunc
import Derived.Test.YthdpajgnigilhaaProg
import Derived.Test.YthdpajgnigilhaaQ2
import Derived.Test.YthdpajgnigilhaaRows
import Derived.WalkKit
import Derived.Conc.LoneSelect
import Derived.Conc.LoneSelectN
import Derived.Lib.Hide
import Derived.Shelf.Small.Bits
import Derived.Shelf.Strconv.Itoa0
import Derived.Shelf.LaysM
import Derived.Shelf.Strconv.Clone
import Derived.BigQuiet
import Derived.Deep.RegionHeld3
import Derived.Outline
/- A row of things of k cells each, sorted by the library: it stays the call's own. No program in sight. -/
namespace Go.Proofs.Ythdpajgnigilhaa
open Go.RowKit Go.Sort

section
variable {α : Type} [Inhabited α] (f : α → List Value) {k : Nat}

theorem flat_rowOf (hf : ∀ x, (f x).length = k) (hk : 0 < k) (zs : List α) : flatK f k zs.toArray = (rowOf f zs).toArray := by
  have hl := rowOf_length f hf zs
  refine ext_get! (by simp [hl]) fun t ht => ?_
  have ht' : t < zs.length * k := by simpa using ht
  rw [get_flatK f k zs.toArray t (by simpa using ht')]
  have hd : t / k < zs.length := (Nat.div_lt_iff_lt_mul hk).2 ht'
  have hm : t % k < k := Nat.mod_lt _ hk
  have r := rowOf_at f hf zs (t / k) (t % k) hd hm
  rw [show t / k * k + t % k = t by rw [Nat.mul_comm]; exact Nat.div_add_mod t k] at r
  have e1 : zs.toArray[t / k]! = zs.getD (t / k) default := by simp [List.getD, hd]
  rw [e1]
  generalize hx : zs.getD (t / k) default = x at *
  have h1 : (f x)[t % k]! = (f x)[t % k]'(by rw [hf]; exact hm) := getElem!_pos _ _ (by rw [hf]; exact hm)
  have h2 : (rowOf f zs).toArray[t]! = (rowOf f zs)[t]'(by omega) := by simp [show t < (rowOf f zs).length by omega]
  rw [h1, h2]
  rw [List.getElem?_eq_getElem (show t < (rowOf f zs).length by omega), List.getElem?_eq_getElem (by rw [hf]; exact hm)] at r
  exact (Option.some.inj r).symm

theorem holdsV_of_block {w : World} {g : Nat} {cur : Array Value} {e : TypeId} {vs : List Value} (hb : w.heap[g]? = some (.cells cur e (0, 0))) (ht : cur.toList.take vs.length = vs) : Holds id w g 0 vs.toArray := by
  intro j hj
  have hj' : j < vs.length := by simpa using hj
  refine ⟨?_, by simp [World.frozen?, hb]⟩
  have h1 : (cur.toList.take vs.length)[j]? = vs[j]? := by rw [ht]
  rw [List.getElem?_take_of_lt hj'] at h1
  simp only [World.cell?, hb, Nat.zero_add]
  simp only [Option.isSome_none, Bool.false_eq_true, if_false]
  rw [← Array.getElem?_toList, h1]
  simp [hj']

theorem heap_sortedV {w : World} {g n : Nat} {os : Array Obj} {cur : Array Value} {e : TypeId} {fr : Nat × Nat} (d : Array Value) (hb : w.heap[g]? = some (.cells cur e fr)) :
    (grow (putRow id (Sort.ahead w n) g 0 d) os).heap[g]? = some (.cells (putCells id 0 d cur) e fr) := by
  have hg : g < w.heap.size := (Array.getElem?_eq_some_iff.1 hb).1
  rw [heap_grow_old _ _ (by simpa using hg)]
  simp [putRow, mapBlock, Sort.ahead, Array.getElem?_modify, hb, onCells]

theorem grownBy_sortedV {w : World} {g n : Nat} {os : Array Obj} (d : Array Value) : w.grownBy (grow (putRow id (Sort.ahead w n) g 0 d) os) (some g) := by
  refine ⟨rfl, rfl, rfl, by simp, fun k hk hne => ?_⟩
  rw [heap_grow_old _ _ (by simpa using hk)]
  have : g ≠ k := fun e => hne (by rw [e])
  simp [putRow, mapBlock, Sort.ahead, Array.getElem?_modify, this]

theorem take_putCellsV (cur : Array Value) (ts : List Value) (h : ts.length ≤ cur.size) : (putCells id 0 ts.toArray cur).toList.take ts.length = ts := by
  apply List.ext_getElem?
  intro j
  by_cases hj : j < ts.length
  · rw [List.getElem?_take_of_lt hj, Array.getElem?_toList]
    simp [putCells, hj, show j < cur.size by omega]
  · rw [List.getElem?_take_eq_none (by omega), List.getElem?_eq_none (by omega)]

/-- A row that is owned, ready for the sort. -/
theorem holdsK_of_own (hf : ∀ x, (f x).length = k) (hk : 0 < k) {w : World} {g : Nat} {cur : Array Value} {e : TypeId} {zs : List α} (hb : w.heap[g]? = some (.cells cur e (0, 0))) (ht : cur.toList.take (zs.length * k) = rowOf f zs) : HoldsK f k w g 0 zs.toArray := by
  unfold HoldsK
  rw [flat_rowOf f hf hk]
  exact holdsV_of_block hb (by rw [rowOf_length f hf]; exact ht)

/-- Behind the sort the same slice owns the sorted row. -/
theorem ownsRow_sortedK (hf : ∀ x, (f x).length = k) (hk : 0 < k) {w : World} {base g cap n : Nat} {e : TypeId} {os : Array Obj} {cur : Array Value} {ss ts : List α} (hl : ts.length = ss.length) (hbase : base ≤ g) (hb : w.heap[g]? = some (.cells cur e (0, 0)))
    (h1 : ss.length ≤ cap) (h2 : cap ≤ maxLen) (h3 : cur.size = cap * k) :
    (sortWorldK f k w g 0 n ts.toArray os).ownsRow base e k (.slice (some ⟨g, 0, none⟩) ss.length cap) ss.length (rowOf f ts) := by
  unfold sortWorldK putRowK
  rw [flat_rowOf f hf hk]
  have hlen := rowOf_length f hf ts
  have hle : (rowOf f ts).length ≤ cur.size := by rw [hlen, hl, h3]; exact Nat.mul_le_mul_right k h1
  refine ⟨by rw [hlen, hl], .inr ⟨g, cap, _, rfl, hbase, heap_sortedV _ hb, h1, h2, by simp [putCells, h3], ?_⟩⟩
  have := take_putCellsV cur (rowOf f ts) hle
  rw [hlen, hl] at this
  exact this

theorem grownBy_sortedK {w : World} {g n : Nat} {os : Array Obj} (ts : Array α) : w.grownBy (sortWorldK f k w g 0 n ts os) (some g) := grownBy_sortedV _
end
end Go.Proofs.Ythdpajgnigilhaa

/-
  Contracts of the kit's shelf at this program, laid by the kit's own tool, in plain words.
-/
namespace Go.Proofs
open Go.Shelf
def Try.laySortD_ren : Go.Shelf.Ren := ⟨fun | 6 => 52 | 15 => 58 | 14 => 57 | 28 => 68 | 29 => 69 | 20 => 60 | 21 => 61 | 22 => 62 | 23 => 63 | 24 => 64 | 25 => 65 | 26 => 66 | 27 => 67 | 46 => 70 | 47 => 71 | 48 => 72 | 49 => 73 | 50 => 74 | 57 => 75 | n => n, fun | 22 => 46 | 24 => 75 | 25 => 94 | 3 => 3 | 39 => 107 | 0 => 0 | 53 => 117 | 55 => 119 | 4 => 4 | 46 => 110 | 45 => 109 | 50 => 114 | 5 => 5 | 9 => 9 | 66 => 120 | 70 => 124 | 76 => 126 | 77 => 127 | n => n, fun | n => n⟩
theorem Try.laySortD : Go.Proofs.SlLaysF0.n6 Try.prog Try.laySortD_ren := {
  mixed := by kernel_rfl
  f6 := ⟨Try.f52.name, by decide, Try.func52.trans (congrArg some (by kernel_rfl))⟩
  f14 := ⟨Try.f57.name, by decide, Try.func57.trans (congrArg some (by kernel_rfl))⟩
  f15 := Try.func58.trans (congrArg some (by kernel_rfl))
  f20 := ⟨Try.f60.name, by decide, Try.func60.trans (congrArg some (by kernel_rfl))⟩
  f21 := ⟨Try.f61.name, by decide, Try.func61.trans (congrArg some (by kernel_rfl))⟩
  f22 := ⟨Try.f62.name, by decide, Try.func62.trans (congrArg some (by kernel_rfl))⟩
  f23 := ⟨Try.f63.name, by decide, Try.func63.trans (congrArg some (by kernel_rfl))⟩
  f24 := ⟨Try.f64.name, by decide, Try.func64.trans (congrArg some (by kernel_rfl))⟩
  f25 := ⟨Try.f65.name, by decide, Try.func65.trans (congrArg some (by kernel_rfl))⟩
  f26 := ⟨Try.f66.name, by decide, Try.func66.trans (congrArg some (by kernel_rfl))⟩
  f27 := ⟨Try.f67.name, by decide, Try.func67.trans (congrArg some (by kernel_rfl))⟩
  f28 := Try.func68.trans (congrArg some (by kernel_rfl))
  f29 := Try.func69.trans (congrArg some (by kernel_rfl))
  f46 := ⟨Try.f70.name, by decide, Try.func70.trans (congrArg some (by kernel_rfl))⟩
  f47 := Try.func71.trans (congrArg some (by kernel_rfl))
  f48 := Try.func72.trans (congrArg some (by kernel_rfl))
  f49 := ⟨Try.f73.name, by decide, Try.func73.trans (congrArg some (by kernel_rfl))⟩
  f50 := ⟨Try.f74.name, by decide, Try.func74.trans (congrArg some (by kernel_rfl))⟩
  f57 := ⟨Try.f75.name, by decide, Try.func75.trans (congrArg some (by kernel_rfl))⟩
  t0 := Try.underlying0
  a0 := Try.isAgg0
  z0 := Try.sizeOf0
  v0 := Try.zeroValue0
  t3 := Try.underlying3
  a3 := Try.isAgg3
  z3 := Try.sizeOf3
  v3 := Try.zeroValue3
  t4 := Try.underlying4
  a4 := Try.isAgg4
  z4 := Try.sizeOf4
  v4 := Try.zeroValue4
  t5 := Try.underlying5
  a5 := Try.isAgg5
  z5 := Try.sizeOf5
  v5 := Try.zeroValue5
  t9 := Try.underlying9
  a9 := Try.isAgg9
  z9 := Try.sizeOf9
  v9 := Try.zeroValue9
  t22 := Try.underlying46
  a22 := Try.isAgg46
  z22 := Try.sizeOf46
  v22 := Try.zeroValue46
  t25 := Try.underlying94
  a25 := Try.isAgg94
  z25 := Try.sizeOf94
  v25 := Try.zeroValue94
  t39 := Try.underlying107
  a39 := Try.isAgg107
  z39 := Try.sizeOf107
  v39 := Try.zeroValue107
  t45 := Try.underlying109
  a45 := Try.isAgg109
  z45 := Try.sizeOf109
  v45 := Try.zeroValue109
  t46 := Try.underlying110
  a46 := Try.isAgg110
  z46 := Try.sizeOf110
  v46 := Try.zeroValue110
  t50 := Try.underlying114
  a50 := Try.isAgg114
  z50 := Try.sizeOf114
  v50 := Try.zeroValue114
  t53 := Try.underlying117
  a53 := Try.isAgg117
  z53 := Try.sizeOf117
  v53 := Try.zeroValue117
  t55 := Try.underlying119
  a55 := Try.isAgg119
  z55 := Try.sizeOf119
  v55 := Try.zeroValue119
  t66 := Try.underlying120
  a66 := Try.isAgg120
  z66 := Try.sizeOf120
  v66 := Try.zeroValue120
  t70 := Try.underlying124
  a70 := Try.isAgg124
  z70 := Try.sizeOf124
  v70 := Try.zeroValue124
  t76 := Try.underlying126
  a76 := Try.isAgg126
  z76 := Try.sizeOf126
  v76 := Try.zeroValue126
  t77 := Try.underlying127
  a77 := Try.isAgg127
  z77 := Try.sizeOf127
  v77 := Try.zeroValue127 }
def Try.layIdx_ren : Go.Shelf.Ren := ⟨fun | 6 => 48 | n => n, fun | 22 => 47 | 23 => 75 | 25 => 96 | 3 => 3 | 0 => 0 | 4 => 4 | n => n, fun | n => n⟩
theorem Try.layIdx : Go.Proofs.SlLaysH0.n6 Try.prog Try.layIdx_ren := {
  mixed := by kernel_rfl
  f6 := ⟨Try.f48.name, by decide, Try.func48.trans (congrArg some (by kernel_rfl))⟩
  t0 := Try.underlying0
  a0 := Try.isAgg0
  z0 := Try.sizeOf0
  v0 := Try.zeroValue0
  t3 := Try.underlying3
  a3 := Try.isAgg3
  z3 := Try.sizeOf3
  v3 := Try.zeroValue3
  t4 := Try.underlying4
  a4 := Try.isAgg4
  z4 := Try.sizeOf4
  v4 := Try.zeroValue4
  t22 := Try.underlying47
  a22 := Try.isAgg47
  z22 := Try.sizeOf47
  v22 := Try.zeroValue47
  t25 := Try.underlying96
  a25 := Try.isAgg96
  z25 := Try.sizeOf96
  v25 := Try.zeroValue96 }
end Go.Proofs

/- net's Net: find. -/
namespace Go.Proofs.Ythdpajgnigilhaa
open Go.RowKit Go.Shelf Go.Sort

theorem swo_due : SWO (ltOf cmpD) := by
  have h : ∀ x y, ltOf cmpD x y = wlt x y := fun x y => rfl
  refine ⟨fun x => ?_, fun x y z h1 h2 => ?_, fun x y z h1 h2 => ?_⟩
  · rw [h, wlt_false]; omega
  · rw [h, wlt_iff] at *; omega
  · rw [h, wlt_false] at *; omega

theorem wcells_one (x : Nd) : ∀ v ∈ wcells x, v.oneCell' = true := by
  intro v hv
  simp [wcells] at hv
  rcases hv with rfl | rfl | rfl | rfl | rfl <;> rfl

/-- Rising by time, of one time by number. -/
def SortedD (l : List Nd) : Prop := ∀ i j, i < j → j < l.length → wlt (HL.el l j) (HL.el l i) = false

theorem el_toArray (l : List Nd) (i : Nat) (hi : i < l.length) : l.toArray[i]! = HL.el l i := by
  simp [HL.el, List.getD, hi]

/-- slices.SortFunc of a row of dues that is owned. -/
theorem dsort_own (base : Nat) (v : Value) (zs : List Nd) (w : World) (h0 : 0 < zs.length) (hn : zs.length ≤ 1000000) (ho : w.ownsRow base 75 5 v zs.length (rowOf wcells zs)) :
    Calls Try.prog 52 #[v, .func (.func 47) #[] #[]] w fun e w' => e = .returned (.tuple #[]) ∧ ∃ ts, ts.Perm zs ∧ SortedD ts ∧ w'.ownsRow base 75 5 v zs.length (rowOf wcells ts) ∧ w.grownBy w' v.ownBlock := by
  rcases ho.2 with ⟨rfl, hz⟩ | ⟨gb, cap, cur, rfl, hbase, hgb, r1, r2, r3, r4⟩
  · omega
  · have hH : HoldsK wcells 5 w gb 0 zs.toArray := holdsK_of_own wcells wcells_length (by omega) hgb r4
    have hgl : gb < w.heap.size := (Array.getElem?_eq_some_iff.1 hgb).1
    have eg : ∀ args w, (callFunc 47 args).run Try.prog w = .ok (.enter 47 args) w := enters_of Try.func47 (by kernel_rfl) rfl
    have hs := AnyQ.slices_SortFunc Try.laySortD 5 Try.isAgg75 Try.sizeOf75 wcells wcells_length wcells_one cmpD swo_due 47 #[] gb 0 cap zs.toArray w eg (fun _ _ _ _ x y => compare_lays x y _) hH hgl (by simp; omega)
    change Calls Try.prog 52 _ _ _ at hs
    rw [List.size_toArray] at hs
    refine hs.mono ?_
    rintro e w' ⟨rfl, d', nn, os, hp, hsd, rfl⟩
    obtain ⟨ts, rfl⟩ : ∃ ts : List Nd, d' = ts.toArray := ⟨d'.toList, by simp⟩
    have hsz : ts.length = zs.length := by have := hp.1; simpa using this
    have hperm : ts.Perm zs := by
      have := hp.2.2
      rw [← hsz] at this
      simp at this
      rw [hsz] at this
      simpa using this
    refine ⟨rfl, ts, hperm, ?_, ownsRow_sortedK wcells wcells_length (by omega) hsz hbase hgb r1 r2 r3, grownBy_sortedK wcells _⟩
    intro i j hij hj
    have := hsd i j (Nat.zero_le _) hij (by omega)
    rw [el_toArray ts j hj, el_toArray ts i (by omega)] at this
    exact this

set_option maxRecDepth 100000 in
theorem dsorted_seq (Bs len cap : Nat) (p : Option Addr) (zs : List Nd) (h0 : 0 < len) (hbig : len ≤ 1000000) (w : World) (hBs : Bs < w.heap.size) (hc : w.cell? ⟨Bs, 0, none⟩ = some (.slice p len cap)) (hR : RdG wcells w w.heap.size p len zs) :
    Calls Try.prog 45 #[.func (.func 53) #[] #[.pointer (some ⟨Bs, 0, none⟩)], .func (.func 47) #[] #[]] w fun e w' =>
      ∃ v ts, e = .returned v ∧ ts.Perm zs ∧ SortedD ts ∧ w'.ownsRow w.heap.size 75 5 v zs.length (rowOf wcells ts) ∧ Below w.heap.size w w' := by
  have HA := Lib.hid (dcollect_seq Bs len cap p zs hbig w hBs hc hR)
  have HZ := Lib.hid hR.1
  clear hc hR
  go_enter Try.func45, Try.ntmps45
  go_wp2_with fail
  refine HA.out.mono ?_
  rintro e w1 ⟨v, rfl, ho, hb⟩
  have HO := Lib.hid ho
  have HB := Lib.hid hb
  clear ho hb
  go_wp2_with fail
  refine (dsort_own w.heap.size v zs w1 (by have := HZ.out; omega) (by have := HZ.out; omega) HO.out).mono ?_
  rintro e w2 ⟨rfl, ts, hp, hsd, ho2, hg⟩
  have HO2 := Lib.hid ho2
  have HG := Lib.hid hg
  have HP := Lib.hid hp
  have HS := Lib.hid hsd
  clear ho2 hg hp hsd
  go_wp2
  go_ret
  exact ⟨v, ts, rfl, HP.out, HS.out, HO2.out, HB.out.grown HG.out HB.out.size (fun k hk => (HO.out.lt k hk).1)⟩

theorem nets_rd {ab ao base : Nat} {q : Option Addr} {n d : Nat} {l : List Nd} {w : World} (h : NetsI ab ao base (.slice q n d) l w) : RdG wcells w w.heap.size q n l := by
  have ho := h.2.2.1
  obtain ⟨p', c', e⟩ := owns_slice ho
  injection e with _ e2 _
  subst e2
  exact RdG.of_own ho rfl

/-- slices.IndexFunc with find's closure. -/
theorem index_due (b n c B : Nat) (zs : List Nd) (y : Nd) (w : World) (hz : zs.length = n) (hbig : n ≤ 1000000) (hb : b < w.heap.size) (hB : B < w.heap.size)
    (hc : ∀ j u, (rowOf wcells zs)[j]? = some u → w.cell? ⟨b, j, none⟩ = some u)
    (hy : w.cell? ⟨B, 0, none⟩ = some (.int .i64 y.fr) ∧ w.cell? ⟨B, 0 + 1, none⟩ = some (.int .i64 y.to) ∧ w.cell? ⟨B, 0 + 2, none⟩ = some (.string y.da) ∧ w.cell? ⟨B, 0 + 3, none⟩ = some (.int .i64 y.at') ∧ w.cell? ⟨B, 0 + 4, none⟩ = some (.int .i64 y.sq)) :
    Calls Try.prog 48 #[.slice (some ⟨b, 0, none⟩) n c, .func (.func 49) #[] #[.pointer (some ⟨B, 0, none⟩)]] w fun e w' =>
      e = .returned (.int .i64 (Lib.idxBy (fun _ x => eqD x y) zs default)) ∧ Below w.heap.size w w' := by
  have eg : ∀ args w, (callFunc 49 args).run Try.prog w = .ok (.enter 49 args) w := enters_of Try.func49 (by kernel_rfl) rfl
  have hi := AnyQ.slices_IndexFunc Try.layIdx 5 Try.isAgg75 Try.sizeOf75 wcells wcells_length (fun x => eqD x y) 49 #[.pointer (some ⟨B, 0, none⟩)] eg b 0 n c zs w
    (fun W x hbw => (find_is x y B W ⟨(hbw.cell (p := ⟨B, 0, none⟩) hB).trans hy.1, (hbw.cell (p := ⟨B, 0 + 1, none⟩) hB).trans hy.2.1, (hbw.cell (p := ⟨B, 0 + 2, none⟩) hB).trans hy.2.2.1, (hbw.cell (p := ⟨B, 0 + 3, none⟩) hB).trans hy.2.2.2.1, (hbw.cell (p := ⟨B, 0 + 4, none⟩) hB).trans hy.2.2.2.2⟩).mono
      fun e w' ⟨he, hb'⟩ => ⟨he, hbw.trans (hb'.mono hbw.size)⟩) (by omega) (by omega) hb
    (fun j hj i v hv => by
      have hi5 : i < 5 := by have := (List.getElem?_eq_some_iff.1 hv).1; rw [wcells_length] at this; exact this
      have e1 : zs[j]! = zs.getD j default := by simp [List.getD, hj]
      rw [e1] at hv
      have r := rowOf_at wcells wcells_length zs j i hj hi5
      rw [hv] at r
      rw [Nat.zero_add]
      exact hc _ _ r)
  rw [List.take_of_length_le (by omega)] at hi
  exact hi

theorem idx_from (y : Nd) : ∀ (zs : List Nd) (s : Nat), y ∈ zs → ∃ i : Nat, i < zs.length ∧ Lib.idxByFrom (fun _ x => eqD x y) default zs s = ((s + i : Nat) : Int) ∧ HL.el zs i = y
  | [], _, h => by cases h
  | z :: zs, s, h => by
    by_cases e : eqD z y = true
    · exact ⟨0, by simp, by simp [Lib.idxByFrom, e], (eqD_eq z y).1 e⟩
    · have hne : y ∈ zs := by
        rcases List.mem_cons.1 h with h | h
        · exact absurd ((eqD_eq z y).2 h.symm) e
        · exact h
      obtain ⟨i, hi, he, hel⟩ := idx_from y zs (s + 1) hne
      refine ⟨i + 1, by simp; omega, ?_, hel⟩
      simp only [Lib.idxByFrom, e]
      rw [if_neg (by simp), he]
      congr 1
      omega

theorem idx_found (zs : List Nd) (y : Nd) (hy : y ∈ zs) : ∃ i : Nat, i < zs.length ∧ Lib.idxBy (fun _ x => eqD x y) zs default = (i : Int) ∧ HL.el zs i = y := by
  obtain ⟨i, h1, h2, h3⟩ := idx_from y zs 0 hy
  exact ⟨i, h1, by rw [Lib.idxBy, h2, Nat.zero_add], h3⟩

theorem el_mem {l : List Nd} {i : Nat} (h : i < l.length) : HL.el l i ∈ l := by
  have : HL.el l i = l[i] := by simp [HL.el, List.getD, h]
  rw [this]
  exact List.getElem_mem h

set_option maxHeartbeats 1000000 in
set_option maxRecDepth 100000 in
theorem net_find (nb base : Nat) (v : Value) (l : List Nd) (seq : Int) (k : Nat) (cu ch : Value) (w : World) (h : NetI nb base v l seq cu ch w) (hk : k < l.length) :
    Calls Try.prog 35 #[.pointer (some ⟨nb, 0, none⟩), .int .i64 k] w fun e w' => ∃ (i : Nat) (ts : List Nd), e = .returned (.int .i64 i) ∧ i < l.length ∧ ts.Perm l ∧ SortedD ts ∧ HL.el l i = HL.el ts k ∧ Below w.heap.size w w' := by
  obtain ⟨g, cap, hv, _, hg, _⟩ := owns_len h.h.2.2.1 (by omega)
  subst hv
  have hlt := cell_lt h.c1
  have hc := h.h.1
  have hm := h.h.2.2.2.2.1
  have HR := Lib.hid (nets_rd h.h)
  have hk0 : ¬ (k : Int) < 0 := by omega
  have hkl : ¬ (l.length : Int) ≤ k := by omega
  clear h
  go_enter Try.func35, Try.ntmps35
  go_wp2_with fail
  refine (dvalues_call (some ⟨g, 0, none⟩) l.length cap _).mono ?_
  rintro e w1 ⟨rfl, rfl⟩
  have hb : Below w.heap.size w (w.alloc (.cells #[.slice (some ⟨g, 0, none⟩) l.length cap] 47)) := (Below.refl _ _).alloc (Nat.le_refl _) _
  have HB := Lib.hid hb
  have HS := Lib.hid (dsorted_seq w.heap.size l.length cap (some ⟨g, 0, none⟩) l (by omega) (by omega) (w.alloc (.cells #[.slice (some ⟨g, 0, none⟩) l.length cap] 47)) (by simp) (by go_simp) ((HR.out.below hb).more (by simp)))
  clear hb
  go_wp2_with fail
  refine HS.out.mono ?_
  rintro e w2 ⟨u, ts, rfl, hp, hsd, ho, hb2⟩
  have hB2 : Below w.heap.size w w2 := HB.out.trans (hb2.mono (by simp))
  have hts : ts.length = l.length := hp.length_eq
  obtain ⟨g2, cap2, rfl, _, hg2, _⟩ := owns_len ho (by omega)
  have hx := rd_due (o := 0) (n := l.length) hts (fun j u hu => by
    have := ho.cells (g := g2) rfl j u hu
    rw [add_at] at this
    exact this) k (by omega)
  simp only [Nat.zero_add] at hx
  have hc2 := (hB2.cell (p := ⟨nb, 0, none⟩) hlt).trans hc
  have HX : Hid (HL.el ts k ∈ l) := Lib.hid (hp.mem_iff.1 (el_mem (by omega)))
  have hnb2 : nb < w2.heap.size := by have := hB2.size; omega
  have HRW := Lib.hid (HR.out.below hB2)
  have HP := Lib.hid hp
  have HSD := Lib.hid hsd
  have HB2 := Lib.hid hB2
  have hsz := hB2.size
  have HK : Hid (∀ x, HL.el ts k = x → ∃ i : Nat, i < l.length ∧ Lib.idxBy (fun _ z => eqD z x) l default = (i : Int) ∧ HL.el l i = x ∧ HL.el l i = HL.el ts k) := Lib.hid (fun x e => by
    obtain ⟨i, h1, h2, h3⟩ := idx_found l (HL.el ts k) HX.out
    subst e
    exact ⟨i, h1, h2, h3, h3⟩)
  clear hp hsd hB2 hb2 ho hts HB HR HS hc
  obtain ⟨x, hxe⟩ : ∃ x, HL.el ts k = x := ⟨_, rfl⟩
  rw [hxe] at hx
  obtain ⟨i, hi, hidx, hel, helk⟩ := HK.out x hxe
  have HE := Lib.hid helk
  have HXE := Lib.hid hxe
  have HID := Lib.hid hidx
  clear hxe helk hidx HK
  have HIX : Hid (∀ W, W = w2.alloc (.cells #[.int .i64 x.fr, .int .i64 x.to, .string x.da, .int .i64 x.at', .int .i64 x.sq] 75) → Calls Try.prog 48 #[.slice (some ⟨g, 0, none⟩) l.length cap, .func (.func 49) #[] #[.pointer (some ⟨w2.heap.size, 0, none⟩)]] W fun e w' =>
      e = .returned (.int .i64 i) ∧ Below W.heap.size W w') := Lib.hid (by
    rintro W rfl
    have hF : Below w2.heap.size w2 (w2.alloc (.cells #[.int .i64 x.fr, .int .i64 x.to, .string x.da, .int .i64 x.at', .int .i64 x.sq] 75)) := (Below.refl _ _).alloc (Nat.le_refl _) _
    obtain ⟨b, o, e, hb, hcc⟩ := HRW.out.2 (by omega)
    injection e with e
    injection e with e1 e2
    subst e1 e2
    have := index_due g l.length cap w2.heap.size l x (w2.alloc (.cells #[.int .i64 x.fr, .int .i64 x.to, .string x.da, .int .i64 x.at', .int .i64 x.sq] 75)) rfl (by omega) (by simp; omega) (by simp)
      (fun j u hu => by rw [← hcc j u hu, Nat.zero_add]; exact hF.cell (p := ⟨g, j, none⟩) (by show g < _; omega)) ⟨by go_simp, by go_simp, by go_simp, by go_simp, by go_simp⟩
    rw [HID.out] at this
    exact this)
  obtain ⟨x0, x1, x2, x3, x4⟩ := hx
  go_wp2_with fail
  refine (HIX.out _ rfl).mono ?_
  rintro e w3 ⟨rfl, hb3⟩
  go_wp2
  go_ret
  refine ⟨i, ts, rfl, hi, HP.out, HSD.out, HE.out, (HB2.out.alloc hsz _).trans (hb3.mono (by simp; omega))⟩
end Go.Proofs.Ythdpajgnigilhaa

/- Channels inside a walk: what a code comes to in a frame of an ordinary call; a region whose first operation is a select of one case with a default, or a send. No program in sight. -/
namespace Go.Proofs.Ythdpajgnigilhaa
open Go.RowKit Go.Conc

/-- As the kit's 'wp', in frames of ordinary calls alone. -/
def WpN (P : Program) (c : Code) (Q : Exit → Act → World → Prop) (a : Act) (w : World) : Prop :=
  ∀ (b : Frame) (k : List Item) (cs : List Frame), b.kind = .normal → ∃ e a' w', Q e a' w' ∧ Arrives P (lone (b.at a (.code c :: k)) cs w) b k cs e a' w'

section
variable {P : Program} {Q : Exit → Act → World → Prop} {a : Act} {w : World}

theorem wpN_of {c : Code} (h : c.wp P Q a w) : WpN P c Q a w := fun b k cs _ => h b k cs

theorem wpN_seq {x y : Code} (h : WpN P x (Exit.then (WpN P y Q) Q) a w) : WpN P (Code.seq x y) Q a w := by
  intro b k cs hb
  obtain ⟨e, a1, w1, hq, harr⟩ := h b (.code y :: k) cs hb
  by_cases he : e = .normal
  · subst he
    obtain ⟨e2, a2, w2, hq2, harr2⟩ := hq b k cs hb
    exact ⟨e2, a2, w2, hq2, .of_steps (.head step_seq harr) harr2⟩
  · refine ⟨e, a1, w1, ?_, .of_steps (.one step_seq) (.pass (x := .code y) rfl (fun _ _ => .inl he) harr)⟩
    cases e <;> first | exact hq | exact absurd rfl he

theorem wpN_cond {c : Operand} {x y : Code} {t : Bool} (hc : a.eval c = .bool t) (h : WpN P (if t then x else y) Q a w) : WpN P (Code.cond c x y) Q a w :=
  fun b k cs hb => let ⟨e, a', w', q, r⟩ := h b k cs hb; ⟨e, a', w', q, .of_steps (.one (step_cond hc)) r⟩

theorem wpN_block {id : Nat} {c : Code} (h : WpN P c (Exit.inBlock id Q) a w) : WpN P (Code.block id c) Q a w := by
  intro b k cs hb
  obtain ⟨e, a1, w1, hq, harr⟩ := h b (.inBlock id :: k) cs hb
  cases e with
  | normal => exact ⟨.normal, a1, w1, hq, .head step_block (Steps.trans harr (.one step_inBlock))⟩
  | exit id' =>
    by_cases hid : id' = id
    · simp only [Exit.inBlock, hid, if_true] at hq
      exact ⟨.normal, a1, w1, hq, .head step_block (harr k (by simp [exitTo, hid]))⟩
    · simp only [Exit.inBlock, hid, if_false] at hq
      refine ⟨.exit id', a1, w1, hq, fun k' hk => .head step_block (harr k' ?_)⟩
      have : (id == id') = false := by simp; exact fun h => hid h.symm
      simp [exitTo, this, hk]
  | goto l => exact ⟨_, a1, w1, hq, fun k' hk => .head step_block (harr k' (by simp [gotoIn, hk]))⟩
  | ret => exact ⟨_, a1, w1, hq, .of_steps (.one step_block) harr⟩
  | panic ch => exact ⟨_, a1, w1, hq, .of_steps (.one step_block) harr⟩
  | outgrown => exact ⟨_, a1, w1, hq, .of_steps (b := b) (k := k) (cs := cs) (e := .outgrown) (.one step_block) harr⟩

theorem wpN_loop {c : Code} (I : Act → World → Prop) (mu : Act → World → Nat) (h0 : I a w)
    (round : ∀ a w, I a w → WpN P c (Exit.then (fun a' w' => I a' w' ∧ mu a' w' < mu a w) Q) a w) : WpN P (Code.loop c) Q a w := by
  intro b k cs hb
  have key : ∀ n a w, mu a w = n → I a w → ∃ e a' w', Q e a' w' ∧ Arrives P (lone (b.at a (.code c :: .inLoop c :: k)) cs w) b k cs e a' w' := by
    intro n
    induction n using Nat.strongRecOn with
    | _ n ih =>
      intro a w hn hI
      obtain ⟨e, a1, w1, hq, harr⟩ := round a w hI b (.inLoop c :: k) cs hb
      by_cases he : e = .normal
      · subst he
        obtain ⟨hI1, hlt⟩ := hq
        obtain ⟨e2, a2, w2, hq2, harr2⟩ := ih (mu a1 w1) (hn ▸ hlt) a1 w1 rfl hI1
        exact ⟨e2, a2, w2, hq2, .of_steps (Steps.trans harr (.one step_inLoop)) harr2⟩
      · refine ⟨e, a1, w1, ?_, .pass (x := .inLoop c) rfl (fun _ _ => .inl he) harr⟩
        cases e <;> first | exact hq | exact absurd rfl he
  obtain ⟨e, a', w', hq, harr⟩ := key _ a w rfl h0
  exact ⟨e, a', w', hq, .of_steps (.one step_loop) harr⟩

theorem calls_of_wpN {f : FuncId} {fn : Func} {c : Code} {args : Array Value} {R : Ending → World → Prop} (hf : P.funcs[f]? = some fn) (hb : fn.body = some c)
    (hno : ∀ w', ¬ R .outgrown w') (h : WpN P c (bodyPost P fn R) { tmps := args ++ Array.replicate (fn.ntmps - args.size) undef, defers := [] } w) : Calls P f args w R := by
  intro cs
  have henter : Frame.enter P f args .normal = (base f).at { tmps := args ++ Array.replicate (fn.ntmps - args.size) undef, defers := [] } [.code c] := by
    simp [Frame.enter, Frame.at, hf, hb, base]
  obtain ⟨e, a', w', hq, harr⟩ := h (base f) [] cs rfl
  rw [← henter] at harr
  cases e with
  | normal =>
    obtain ⟨hd, v, hr, hR⟩ := hq
    exact ⟨.returned v, w', _, hR, Steps.trans harr (.one step_end), rfl, rfl, hd, rfl, fn, hf, hr⟩
  | ret =>
    obtain ⟨hd, v, hr, hR⟩ := hq
    obtain ⟨todo, hs⟩ := harr
    exact ⟨.returned v, w', _, hR, hs, rfl, rfl, hd, rfl, fn, hf, hr⟩
  | panic chain =>
    obtain ⟨hd, hR⟩ := hq
    obtain ⟨todo, hs⟩ := harr
    exact ⟨.panicked chain, w', _, hR, hs, rfl, rfl, hd, fn, hf⟩
  | outgrown => exact absurd hq (hno w')
  | exit id => exact hq.elim
  | goto l => exact hq.elim

/-- A region whose first operation is a communication that the machine of one carries out in one step. -/
theorem wpN_comm {id : Nat} {o : Oper} {l : List Oper} (v : Value) (w1 : World)
    (hstep : ∀ (b : Frame) (k : List Item) (cs : List Frame), b.kind = .normal → ∀ rest, step P (lone (b.at a (.inRegion (o :: l).toArray (0 :: rest) :: k)) cs w) = .next (lone ((b.at a (.inRegion (o :: l).toArray (0 :: rest) :: k)).finish v) cs w1))
    (h : wpList P (o :: l).toArray Q l (a.put o.dst v) w1) : WpN P (Code.region id (o :: l).toArray false) Q a w := by
  intro b k cs hb
  have hr : List.range (o :: l).toArray.size = 0 :: List.range' 1 l.length := by
    rw [List.range_eq_range']
    simp [List.range'_succ]
  have h' : wpOps P (o :: l).toArray Q (List.range' 1 l.length) (a.put o.dst v) w1 := by
    rw [wpOps_eq_wpList l 1 (fun j => by simp [Nat.add_comm 1 j])]
    exact h
  obtain ⟨e, a', w', q, r⟩ := wp_ops _ _ _ h' b k cs
  refine ⟨e, a', w', q, .of_steps (.head step_region (.one ?_)) r⟩
  rw [hr, hstep b k cs hb, Frame.finish_at]
  rfl

section
variable {id : Nat} {d : Option Tmp} {x y : Operand} {e : TypeId} {ty : TypeId} {pos : String} {af : Array Edge} {l : List Oper} {c cap s r : Nat} {buf : Array Value} {z v : Value} {tm : Bool}

theorem wpN_sel_recv (hx : a.eval x = .chan (some c)) (hz : ∀ w, (zeroValue e).run P w = .ok z w) (hc : w.heap[c]? = some (.chan cap buf false s r tm)) (hs : 0 < buf.size)
    (h : wpList P (⟨d, .select #[{ chan := x, send := none, elem := e }] false, ty, pos, af, none⟩ :: l).toArray Q l (a.put d (.tuple #[goInt 0, .bool true, buf.getD 0 undef])) (w.setChan c cap (buf.extract 1 buf.size) false s (r + 1) tm)) :
    WpN P (Code.region id (⟨d, .select #[{ chan := x, send := none, elem := e }] false, ty, pos, af, none⟩ :: l).toArray false) Q a w :=
  wpN_comm _ _ (fun b k cs hb rest => step_lone_select_recv_buf (stepG_comm (cases := #[rcase c z]) (blocking := false) (shape := .select) (w' := w) rfl (by simp [Region.wanted]) (by rw [hb]; decide) (by simp [go_sem, execOp, rcase, hz]; simpa [go_sem, Act.eval] using hx)) hc hs) h

theorem wpN_sel_recv_default (hx : a.eval x = .chan (some c)) (hz : ∀ w, (zeroValue e).run P w = .ok z w) (hc : w.heap[c]? = some (.chan cap #[] false s r tm))
    (h : wpList P (⟨d, .select #[{ chan := x, send := none, elem := e }] false, ty, pos, af, none⟩ :: l).toArray Q l (a.put d (.tuple #[goInt (-1), .bool false, z])) w) :
    WpN P (Code.region id (⟨d, .select #[{ chan := x, send := none, elem := e }] false, ty, pos, af, none⟩ :: l).toArray false) Q a w :=
  wpN_comm _ _ (fun b k cs hb rest => step_lone_select_default (stepG_comm (cases := #[rcase c z]) (blocking := false) (shape := .select) (w' := w) rfl (by simp [Region.wanted]) (by rw [hb]; decide) (by simp [go_sem, execOp, rcase, hz]; simpa [go_sem, Act.eval] using hx)) hc) h

theorem wpN_sel_recv_nil (hx : a.eval x = .chan none) (hz : ∀ w, (zeroValue e).run P w = .ok z w)
    (h : wpList P (⟨d, .select #[{ chan := x, send := none, elem := e }] false, ty, pos, af, none⟩ :: l).toArray Q l (a.put d (.tuple #[goInt (-1), .bool false, z])) w) :
    WpN P (Code.region id (⟨d, .select #[{ chan := x, send := none, elem := e }] false, ty, pos, af, none⟩ :: l).toArray false) Q a w :=
  wpN_comm _ _ (fun b k cs hb rest => step_lone_select_recv_nil (stepG_comm (cases := #[rcaseNil z]) (blocking := false) (shape := .select) (w' := w) rfl (by simp [Region.wanted]) (by rw [hb]; decide) (by simp [go_sem, execOp, rcaseNil, hz]; simpa [go_sem, Act.eval] using hx))) h

theorem wpN_sel_send (hx : a.eval x = .chan (some c)) (hy : a.eval y = v) (hz : ∀ w, (zeroValue e).run P w = .ok z w) (hc : w.heap[c]? = some (.chan cap buf false s r tm)) (hs : buf.size < cap)
    (h : wpList P (⟨d, .select #[{ chan := x, send := some y, elem := e }] false, ty, pos, af, none⟩ :: l).toArray Q l (a.put d (.tuple #[goInt 0, .bool false])) (w.setChan c cap (buf.push v) false (s + 1) r tm)) :
    WpN P (Code.region id (⟨d, .select #[{ chan := x, send := some y, elem := e }] false, ty, pos, af, none⟩ :: l).toArray false) Q a w :=
  wpN_comm _ _ (fun b k cs hb rest => step_lone_select_send_room (stepG_comm (cases := #[scase c v z]) (blocking := false) (shape := .select) (w' := w) rfl (by simp [Region.wanted]) (by rw [hb]; decide) (by simp [go_sem, execOp, scase, hz]; exact ⟨by simpa [go_sem, Act.eval] using hx, by simpa [go_sem, Act.eval] using hy⟩)) hc hs) h

theorem wpN_sel_send_full (hx : a.eval x = .chan (some c)) (hy : a.eval y = v) (hz : ∀ w, (zeroValue e).run P w = .ok z w) (hc : w.heap[c]? = some (.chan cap buf false s r tm)) (hs : cap ≤ buf.size)
    (h : wpList P (⟨d, .select #[{ chan := x, send := some y, elem := e }] false, ty, pos, af, none⟩ :: l).toArray Q l (a.put d (.tuple #[goInt (-1), .bool false])) w) :
    WpN P (Code.region id (⟨d, .select #[{ chan := x, send := some y, elem := e }] false, ty, pos, af, none⟩ :: l).toArray false) Q a w :=
  wpN_comm _ _ (fun b k cs hb rest => step_lone_select_send_full (stepG_comm (cases := #[scase c v z]) (blocking := false) (shape := .select) (w' := w) rfl (by simp [Region.wanted]) (by rw [hb]; decide) (by simp [go_sem, execOp, scase, hz]; exact ⟨by simpa [go_sem, Act.eval] using hx, by simpa [go_sem, Act.eval] using hy⟩)) hc hs) h

theorem wpN_sel_send_nil (hx : a.eval x = .chan none) (hy : a.eval y = v) (hz : ∀ w, (zeroValue e).run P w = .ok z w)
    (h : wpList P (⟨d, .select #[{ chan := x, send := some y, elem := e }] false, ty, pos, af, none⟩ :: l).toArray Q l (a.put d (.tuple #[goInt (-1), .bool false])) w) :
    WpN P (Code.region id (⟨d, .select #[{ chan := x, send := some y, elem := e }] false, ty, pos, af, none⟩ :: l).toArray false) Q a w :=
  wpN_comm _ _ (fun b k cs hb rest => step_lone_select_send_nil (stepG_comm (cases := #[scaseNil v z]) (blocking := false) (shape := .select) (w' := w) rfl (by simp [Region.wanted]) (by rw [hb]; decide) (by simp [go_sem, execOp, scaseNil, hz]; exact ⟨by simpa [go_sem, Act.eval] using hx, by simpa [go_sem, Act.eval] using hy⟩))) h

theorem step_val {b : Frame} {k : List Item} {cs : List Frame} {ops : Array Oper} {i : Nat} {rest : List Nat} {o : Oper} {u : Value} {w1 : World} (ho : ops[i]? = some o) (hw : Region.wanted o (yielded ops a.tmps) = true) (hr : (execOp a.eval o).run P w = .ok (.value u) w1) :
    step P (lone (b.at a (.inRegion ops (i :: rest) :: k)) cs w) = .next (lone (b.at (a.put o.dst u) (.inRegion ops rest :: k)) cs w1) := by
  have hfin : (b.at a (.inRegion ops (i :: rest) :: k)).finish u = b.at (a.put o.dst u) (.inRegion ops rest :: k) := by rw [Frame.finish_at, ho]; rfl
  rw [← hfin]
  exact step_lone_go (by rw [stepG_op ho hw]; simp [stepG.apply, hr])

/-- 'c <- x' where there is room, the two operands ahead of it. -/
theorem wpN_send {o0 o1 o2 : Oper} {v0 v1 : Value} (g0 : o0.guard = none) (g1 : o1.guard = none) (g2 : o2.guard = none) (h0 : (execOp a.eval o0).run P w = .ok (.value v0) w) (h1 : (execOp (a.put o0.dst v0).eval o1).run P w = .ok (.value v1) w)
    (h2 : (execOp ((a.put o0.dst v0).put o1.dst v1).eval o2).run P w = .ok (.comm #[scase c v z] true .send) w) (hc : w.heap[c]? = some (.chan cap buf false s r tm)) (hs : buf.size < cap)
    (hq : Q .normal (((a.put o0.dst v0).put o1.dst v1).put o2.dst undef) (w.setChan c cap (buf.push v) false (s + 1) r tm)) : WpN P (Code.region id #[o0, o1, o2] false) Q a w := by
  intro b k cs hb
  refine ⟨.normal, _, _, hq, ?_⟩
  have s0 := step_val (P := P) (b := b) (k := k) (cs := cs) (ops := #[o0, o1, o2]) (i := 0) (rest := [1, 2]) (o := o0) (a := a) (w := w) rfl (by simp [Region.wanted, g0]) h0
  have s1 := step_val (P := P) (b := b) (k := k) (cs := cs) (ops := #[o0, o1, o2]) (i := 1) (rest := [2]) (o := o1) (a := a.put o0.dst v0) (w := w) rfl (by simp [Region.wanted, g1]) h1
  have s2 := step_lone_send_room (P := P) (fr := b.at ((a.put o0.dst v0).put o1.dst v1) (.inRegion #[o0, o1, o2] [2] :: k)) (cs := cs) (stepG_comm (cases := #[scase c v z]) (blocking := true) (shape := .send) (w' := w) rfl (by simp [Region.wanted, g2]) (by rw [hb]; decide) h2) hc hs
  rw [Frame.finish_at] at s2
  exact .head step_region (.head s0 (.head s1 (.head s2 (.one step_region_end))))
end
end
end Go.Proofs.Ythdpajgnigilhaa

/-
  DERIVED: THE SHELF's CONTRACTS AT THIS DUMP, IN PLAIN WORDS (tools/lay-plain.mjs out of 'TryShelf.lean', which tools/lay-shelf.mjs wrote): THE SAME DECLARATIONS UNDER THE SAME NAMES: 'import', 'namespace', 'open', 'def', 'theorem' AND NOTHING ELSE: no command of the shelf's: FOR A HAND-IN. Each laying: the table of numbers ('.._ren') and one theorem, a field a fact of the dump's own or the kernel's comparison; each contract: ONE APPLICATION.
-/
namespace Go.Proofs
open Go.Shelf
def Try.lays128_ren : Go.Shelf.Ren := ⟨fun | 128 => 68 | n => n, fun | 51 => 117 | 3 => 3 | 4 => 4 | 46 => 107 | 5 => 5 | 9 => 9 | n => n, fun | n => n⟩
theorem Try.lays128 : Go.Proofs.Lays.n128 Try.prog Try.lays128_ren := {
  mixed := by kernel_rfl
  f128 := Try.func68.trans (congrArg some (by kernel_rfl))
  t3 := Try.underlying3
  a3 := Try.isAgg3
  z3 := Try.sizeOf3
  v3 := Try.zeroValue3
  t4 := Try.underlying4
  a4 := Try.isAgg4
  z4 := Try.sizeOf4
  v4 := Try.zeroValue4
  t5 := Try.underlying5
  a5 := Try.isAgg5
  z5 := Try.sizeOf5
  v5 := Try.zeroValue5
  t9 := Try.underlying9
  a9 := Try.isAgg9
  z9 := Try.sizeOf9
  v9 := Try.zeroValue9
  t46 := Try.underlying107
  a46 := Try.isAgg107
  z46 := Try.sizeOf107
  v46 := Try.zeroValue107
  t51 := Try.underlying117
  a51 := Try.isAgg117
  z51 := Try.sizeOf117
  v51 := Try.zeroValue117 }
/-- bits.Len32: "Len32 returns the minimum number of bits required to represent x; the result is 0 for x == 0.": IT RETURNS 'Lib.bitLen x'; the world is as it was. ('h0', 'h1': x is a uint32.) (LAID: no walk: one application.) -/
theorem Try.bits_Len32 (x : Int) (w : World) (h0 : 0 ≤ x) (h1 : x ≤ 4294967295) :
    Calls Try.prog 68 #[.int .u32 x] w fun e w' => e = .returned (.int .i64 (Lib.bitLen x.toNat)) ∧ w' = w := Any.bits_Len32 Try.lays128 x w h0 h1
def Try.lays125_ren : Go.Shelf.Ren := ⟨fun | 125 => 58 | 128 => 68 | 129 => 69 | n => n, fun | 46 => 107 | 3 => 3 | 51 => 117 | 53 => 119 | 4 => 4 | 5 => 5 | 9 => 9 | n => n, fun | n => n⟩
theorem Try.lays125 : Go.Proofs.Lays.n125 Try.prog Try.lays125_ren := {
  mixed := by kernel_rfl
  f125 := Try.func58.trans (congrArg some (by kernel_rfl))
  f128 := Try.func68.trans (congrArg some (by kernel_rfl))
  f129 := Try.func69.trans (congrArg some (by kernel_rfl))
  t3 := Try.underlying3
  a3 := Try.isAgg3
  z3 := Try.sizeOf3
  v3 := Try.zeroValue3
  t4 := Try.underlying4
  a4 := Try.isAgg4
  z4 := Try.sizeOf4
  v4 := Try.zeroValue4
  t5 := Try.underlying5
  a5 := Try.isAgg5
  z5 := Try.sizeOf5
  v5 := Try.zeroValue5
  t9 := Try.underlying9
  a9 := Try.isAgg9
  z9 := Try.sizeOf9
  v9 := Try.zeroValue9
  t46 := Try.underlying107
  a46 := Try.isAgg107
  z46 := Try.sizeOf107
  v46 := Try.zeroValue107
  t51 := Try.underlying117
  a51 := Try.isAgg117
  z51 := Try.sizeOf117
  v51 := Try.zeroValue117
  t53 := Try.underlying119
  a53 := Try.isAgg119
  z53 := Try.sizeOf119
  v53 := Try.zeroValue119 }
/-- bits.Len: "Len returns the minimum number of bits required to represent x; the result is 0 for x == 0.": IT RETURNS 'Lib.bitLen x'; the world is as it was. (A uint has 64 bits in the model.) ITS CALLEE bits.Len64 IS MET BY ITS OWN CONTRACT OFF THE SHELF (lay that first). (LAID: no walk: one application.) -/
theorem Try.bits_Len (x : Int) (w : World) (h0 : 0 ≤ x) (h1 : x ≤ 18446744073709551615) :
    Calls Try.prog 58 #[.int .u64 x] w fun e w' => e = .returned (.int .i64 (Lib.bitLen x.toNat)) ∧ w' = w := Any.bits_Len Try.lays125 x w h0 h1
def Try.lays129_ren : Go.Shelf.Ren := ⟨fun | 129 => 69 | n => n, fun | 53 => 119 | 3 => 3 | 4 => 4 | 46 => 107 | 5 => 5 | 9 => 9 | n => n, fun | n => n⟩
theorem Try.lays129 : Go.Proofs.Lays.n129 Try.prog Try.lays129_ren := {
  mixed := by kernel_rfl
  f129 := Try.func69.trans (congrArg some (by kernel_rfl))
  t3 := Try.underlying3
  a3 := Try.isAgg3
  z3 := Try.sizeOf3
  v3 := Try.zeroValue3
  t4 := Try.underlying4
  a4 := Try.isAgg4
  z4 := Try.sizeOf4
  v4 := Try.zeroValue4
  t5 := Try.underlying5
  a5 := Try.isAgg5
  z5 := Try.sizeOf5
  v5 := Try.zeroValue5
  t9 := Try.underlying9
  a9 := Try.isAgg9
  z9 := Try.sizeOf9
  v9 := Try.zeroValue9
  t46 := Try.underlying107
  a46 := Try.isAgg107
  z46 := Try.sizeOf107
  v46 := Try.zeroValue107
  t53 := Try.underlying119
  a53 := Try.isAgg119
  z53 := Try.sizeOf119
  v53 := Try.zeroValue119 }
/-- bits.Len64: "Len64 returns the minimum number of bits required to represent x; the result is 0 for x == 0.": IT RETURNS 'Lib.bitLen x'; the world is as it was. ('h0', 'h1': x is a uint64.) (LAID: no walk: one application.) -/
theorem Try.bits_Len64 (x : Int) (w : World) (h0 : 0 ≤ x) (h1 : x ≤ 18446744073709551615) :
    Calls Try.prog 69 #[.int .u64 x] w fun e w' => e = .returned (.int .i64 (Lib.bitLen x.toNat)) ∧ w' = w := Any.bits_Len64 Try.lays129 x w h0 h1
def Try.laysM316_ren : Go.Shelf.Ren := ⟨fun | 316 => 42 | n => n, fun | 9 => 9 | 3 => 3 | 4 => 4 | 37 => 32 | 0 => 0 | 127 => 98 | 5 => 5 | n => n, fun | n => n⟩
theorem Try.laysM316 : Go.Proofs.LaysM.n316 Try.prog Try.laysM316_ren := {
  mixed := by kernel_rfl
  f316 := Try.func42.trans (congrArg some (by kernel_rfl))
  t0 := Try.underlying0
  a0 := Try.isAgg0
  z0 := Try.sizeOf0
  v0 := Try.zeroValue0
  t3 := Try.underlying3
  a3 := Try.isAgg3
  z3 := Try.sizeOf3
  v3 := Try.zeroValue3
  t4 := Try.underlying4
  a4 := Try.isAgg4
  z4 := Try.sizeOf4
  v4 := Try.zeroValue4
  t9 := Try.underlying9
  a9 := Try.isAgg9
  z9 := Try.sizeOf9
  v9 := Try.zeroValue9
  t37 := Try.underlying32
  a37 := Try.isAgg32
  z37 := Try.sizeOf32
  v37 := Try.zeroValue32
  t127 := Try.underlying98
  a127 := Try.isAgg98
  z127 := Try.sizeOf98
  v127 := Try.zeroValue98
  t5 := Try.underlying5
  a5 := Try.isAgg5
  z5 := Try.sizeOf5
  v5 := Try.zeroValue5
  i0 := by kernel_rfl
  i3 := by kernel_rfl
  i4 := by kernel_rfl
  i5 := by kernel_rfl
  i9 := by kernel_rfl
  i37 := by kernel_rfl
  i127 := by kernel_rfl }
open Go.RowKit in
/-- internal/stringslite.Clone (what strings.Clone calls): "Clone returns a fresh copy of s.": THE SAME BYTES. Of what was there nothing has turned (a new row is laid, and frozen, where s is not empty). (LAID: no walk: one application.) -/
theorem Try.stringslite_Clone (s : ByteArray) (w : World) (hlim : s.size ≤ 281474976710656) :
    Calls Try.prog 42 #[.string s] w fun e w' => e = .returned (.string s) ∧ Below w.heap.size w w' := Any.stringslite_Clone Try.laysM316 s w hlim
end Go.Proofs

/- net's channel: what it is made of. -/
namespace Go.Proofs.Ythdpajgnigilhaa
open Go.RowKit Go.Conc

def pchan (cap s r : Nat) (buf : Array Value) : Obj := .chan cap buf false s r false
theorem zero_pkt : ∀ w, (zeroValue 34).run Try.prog w = .ok (pkv 0 0 ByteArray.empty) w := Try.zeroValue34
theorem bytes_pkt : ∃ i, Try.prog.info? 34 = some i ∧ i.bytes = 32 := by
  have h : (Try.prog.info? 34).map (fun i => i.bytes) = some 32 := by kernel_rfl
  cases hi : Try.prog.info? 34 with
  | none => rw [hi] at h; cases h
  | some i => rw [hi] at h; exact ⟨i, rfl, Option.some.inj h⟩
theorem make_pchan (w : World) : (Instr.makeChan 49 (.int .i64 1)).run Try.prog w = .ok (.chan (some w.heap.size)) (w.alloc (pchan 1 0 0 #[])) := by
  obtain ⟨i, hi, hb⟩ := bytes_pkt
  simpa [pchan] using run_makeChan (P := Try.prog) (w := w) Try.underlying49 hi .i64 1 (by omega) (by rw [hb]; omega)
end Go.Proofs.Ythdpajgnigilhaa

/- net's Net: Send. -/
namespace Go.Proofs.Ythdpajgnigilhaa
open Go.RowKit Go.Conc

/-- A packet. -/
structure Pk where
  fr : Int
  to : Int
  da : ByteArray
deriving Inhabited
def pcells (x : Pk) : List Value := [.int .i64 x.fr, .int .i64 x.to, .string x.da]
theorem pcells_length (x : Pk) : (pcells x).length = 3 := rfl

/-- What stands in the heap more when packets were sent. -/
def accept (cut : Int → Int → Bool) (at' : Int) (n0 : Nat) (s0 : Int) (ps : List Pk) : List Nd :=
  ps.foldl (fun a x => if cut x.fr x.to || decide (600 ≤ n0 + a.length) then a else a ++ [⟨x.fr, x.to, x.da, at', s0 + a.length + 1⟩]) []

theorem accept_snoc (cut : Int → Int → Bool) (at' : Int) (n0 : Nat) (s0 : Int) (ps : List Pk) (x : Pk) :
    accept cut at' n0 s0 (ps ++ [x]) = if cut x.fr x.to || decide (600 ≤ n0 + (accept cut at' n0 s0 ps).length) then accept cut at' n0 s0 ps else accept cut at' n0 s0 ps ++ [⟨x.fr, x.to, x.da, at', s0 + (accept cut at' n0 s0 ps).length + 1⟩] := by
  simp [accept, List.foldl_append]

/-- The map of what is cut lies as it lay. -/
def CutW (m : Option Nat) (ob : Obj) (w : World) : Prop := ∀ b, m = some b → w.heap[b]? = some ob
theorem CutW.keep {m : Option Nat} {ob : Obj} {w w' : World} (h : CutW m ob w) {S : Nat → Prop} (hf : Fr S w w') (hS : ∀ b, m = some b → ¬ S b) : CutW m ob w' := fun b hb =>
  (hf.block b (Array.getElem?_eq_some_iff.1 (h b hb)).1 (hS b hb)).trans (h b hb)

theorem NetI.ch_set {nb base : Nat} {v : Value} {l : List Nd} {seq : Int} {cu ch : Value} {w : World} (h : NetI nb base v l seq cu ch w) (ch' : Value) :
    NetI nb base v l seq cu ch' (w.setCell ⟨nb, 3, none⟩ ch') ∧ Fr (fun k => k = nb) w (w.setCell ⟨nb, 3, none⟩ ch') := by
  obtain ⟨⟨a1, a2, a3, a4, a5, a6⟩, b, c, d, e, f, g, i⟩ := h
  have hF : Fr (fun k => k = nb) w (w.setCell ⟨nb, 3, none⟩ ch') := (Fr.refl (fun k => k = nb) w).setCell (p := ⟨nb, 3, none⟩) (fun _ => rfl) _
  refine ⟨⟨⟨?_, by rw [frozen_set]; exact a2, hF.owns a3 (fun g hg e => a4 (by rw [hg, e])), a4, a5, Nat.le_trans a6 hF.size⟩, ?_, by rw [frozen_set]; exact c, ?_, by rw [frozen_set]; exact e, cell_set_same _ _ _ _ f, by rw [frozen_set]; exact g, i⟩, hF⟩
  · rw [World.cell?_setCell_other _ _ _ _ (by simp)]; exact a1
  · rw [World.cell?_setCell_other _ _ _ _ (by simp)]; exact b
  · rw [World.cell?_setCell_other _ _ _ _ (by simp)]; exact d

/-- Between two packets. -/
structure SendRel (S : Nat → Prop) (w : World) (nb base c : Nat) (v : Value) (l : List Nd) (seq : Int) (cu : Value) (m : Option Nat) (ob : Obj) (acc : List Nd) (v' : Value) (l' : List Nd) (wr : World) : Prop where
  net : NetI nb base v' l' (seq + acc.length) cu (.chan (some c)) wr
  perm : l'.Perm (l ++ acc)
  lies : ∀ g, v'.ownBlock = some g → Lies v g w.heap.size
  chan : ∃ s r, wr.heap[c]? = some (pchan 1 s r #[])
  cutw : CutW m ob wr
  fr : Fr S w wr

abbrev look (cu : Value) (a b : Int) (r : Bool) (W : World) : Prop := (Instr.lookup 48 cu (.agg #[.int .i64 (min a b), .int .i64 (max a b)]) true).run Try.prog W = .ok (.tuple #[.agg #[], .bool r]) W

theorem chan_some_nil (c : Nat) (w : World) : (binOp .eql 49 (.chan (some c)) (.chan none)).run Try.prog w = .ok (.bool false) w := by kernel_rfl
theorem chan_nil_nil (w : World) : (binOp .eql 49 (.chan none) (.chan none)).run Try.prog w = .ok (.bool true) w := by kernel_rfl

set_option maxRecDepth 100000 in
theorem clone_str (s : ByteArray) (w : World) (hs : s.size ≤ 1000000) :
    Calls Try.prog 32 #[.string s] w fun e w' => e = .returned (.string s) ∧ Below w.heap.size w w' := by
  have HC := Lib.hid (Try.stringslite_Clone s w (by omega))
  go_enter Try.func32, Try.ntmps32
  go_wp2_with fail
  refine HC.out.mono ?_
  rintro e w' ⟨rfl, hb⟩
  go_wp2
  go_ret
  exact ⟨rfl, hb⟩

def sendS (nb : Nat) (v ch : Value) : Nat → Prop := fun k => netF nb v k ∨ ch = .chan (some k)
def SendPost (S : Nat → Prop) (nb base : Nat) (v : Value) (l : List Nd) (seq : Int) (cu ch : Value) (m : Option Nat) (ob : Obj) (w : World) (acc : List Nd) (e : Ending) (w' : World) : Prop :=
  e = .returned (.int .i64 acc.length) ∧ ∃ c v' l', SendRel S w nb base c v l seq cu m ob acc v' l' w' ∧ (ch = .chan (some c) ∨ w.heap.size ≤ c)

theorem rd_pkt {w : World} {n : Nat} {b o : Nat} {zs : List Pk} (hz : zs.length = n) (hc : ∀ j u, (rowOf pcells zs)[j]? = some u → w.cell? ⟨b, o + j, none⟩ = some u) (k : Nat) (hk : k < n) :
    w.cell? ⟨b, o + k * 3, none⟩ = some (.int .i64 (HL.el zs k).fr) ∧ w.cell? ⟨b, o + k * 3 + 1, none⟩ = some (.int .i64 (HL.el zs k).to) ∧ w.cell? ⟨b, o + k * 3 + 2, none⟩ = some (.string (HL.el zs k).da) := by
  have r := fun c hcl => rowOf_at pcells pcells_length zs k c (by omega) hcl
  have e : ∀ c, o + (k * 3 + c) = o + k * 3 + c := fun c => by omega
  refine ⟨?_, ?_, ?_⟩
  · exact hc _ _ ((r 0 (by omega)).trans rfl)
  · rw [← e]; exact hc _ _ ((r 1 (by omega)).trans rfl)
  · rw [← e]; exact hc _ _ ((r 2 (by omega)).trans rfl)

theorem take_el (zs : List Pk) (k : Nat) (h : k < zs.length) : zs.take (k + 1) = zs.take k ++ [HL.el zs k] := by
  rw [List.take_succ_eq_append_getElem h]
  congr 2
  simp [HL.el, List.getD, h]

theorem accept_le (cut : Int → Int → Bool) (at' : Int) (n0 : Nat) (s0 : Int) (ps : List Pk) (k : Nat) (hk : k ≤ ps.length) : (accept cut at' n0 s0 (ps.take k)).length ≤ k := by
  induction k with
  | zero => simp [accept]
  | succ k ih =>
    rw [take_el ps k (by omega), accept_snoc]
    have := ih (by omega)
    split
    · omega
    · rw [List.length_append, List.length_singleton]; omega

theorem NetI.not_chan {nb base : Nat} {v : Value} {l : List Nd} {seq : Int} {cu ch : Value} {w : World} (h : NetI nb base v l seq cu ch w) {c cap s r : Nat} {buf : Array Value} {cl tm : Bool} (hc : w.heap[c]? = some (.chan cap buf cl s r tm)) : ¬ netF nb v c := by
  rintro (rfl | hv)
  · have := h.c1
    unfold World.cell? at this
    simp only at this
    rw [hc] at this
    simp at this
  · rcases h.h.2.2.1.2 with ⟨e, _⟩ | ⟨g, cap', cur, e, _, hg, _⟩
    · rw [e] at hv; cases hv
    · rw [e] at hv
      have : g = c := by simpa [Value.ownBlock] using hv
      subst this
      rw [hc] at hg
      cases hg

section
variable {S : Nat → Prop} {w wr W : World} {nb base c : Nat} {v v' : Value} {l l' acc : List Nd} {seq : Int} {cu : Value} {m : Option Nat} {ob : Obj}
theorem SendRel.keep (h : SendRel S w nb base c v l seq cu m ob acc v' l' wr) (hF : Fr (fun _ => False) wr W) : SendRel S w nb base c v l seq cu m ob acc v' l' W := by
  obtain ⟨h1, h2, h3, ⟨s, r, h4⟩, h5, h6⟩ := h
  refine ⟨h1.keep hF (fun _ _ h => h), h2, h3, ⟨s, r, (hF.block c (Array.getElem?_eq_some_iff.1 h4).1 (fun h => h)).trans h4⟩, h5.keep hF (fun _ _ h => h), Fr.trans h6 hF (fun _ h _ => h.elim)⟩

theorem SendRel.own_lt (h : SendRel S w nb base c v l seq cu m ob acc v' l' wr) (hS : ∀ k, netF nb v k → S k) {i : Nat} (hi : netF nb v' i) (hlt : i < w.heap.size) : S i := by
  rcases hi with hi | hi
  · exact hS i (.inl hi)
  · rcases h.lies i hi with g | g
    · exact hS i (.inr g)
    · omega

/-- A packet has come into the heap. -/
theorem SendRel.pushed (h : SendRel S w nb base c v l seq cu m ob acc v' l' wr) (hS : ∀ k, netF nb v k → S k) (hSc : c < w.heap.size → S c) (hm : ∀ b, m = some b → ¬ S b) (hcw : CutW m ob w) {x : Nd} {s r : Nat} {W3 : World} {v3 : Value} {l3 : List Nd}
    (hF : Fr (fun k => k = c) wr W) (hch : W.heap[c]? = some (pchan 1 s r #[])) (hN : NetI nb base v3 l3 (seq + acc.length + 1) cu (.chan (some c)) W3) (hp : l3.Perm (l' ++ [x])) (hF3 : Fr (netF nb v') W W3) (hl : ∀ g, v3.ownBlock = some g → Lies v' g W.heap.size) :
    SendRel S w nb base c v l seq cu m ob (acc ++ [x]) v3 l3 W3 := by
  have hnc : ¬ netF nb v' c := by obtain ⟨_, _, hc⟩ := h.chan; exact h.net.not_chan hc
  have hsz := Nat.le_trans h.fr.size hF.size
  have hFF : Fr S w W3 := Fr.trans (Fr.trans h.fr hF (fun i hi hl9 => by have e9 : i = c := hi; rw [e9]; exact hSc (by omega))) hF3 (fun i hi hlt => h.own_lt hS hi hlt)
  refine ⟨?_, ?_, ?_, ⟨s, r, (hF3.block c (Array.getElem?_eq_some_iff.1 hch).1 hnc).trans hch⟩, hcw.keep hFF hm, hFF⟩
  · rw [List.length_append, List.length_singleton, Int.natCast_add, ← Int.add_assoc]
    exact hN
  · refine hp.trans ?_
    rw [← List.append_assoc]
    exact h.perm.append_right _
  · intro g hg
    rcases hl g hg with e | e
    · exact h.lies g e
    · exact .inr (by omega)
end

theorem setChan_other (w : World) (c c' cap : Nat) (buf : Array Value) (closed : Bool) (s r : Nat) (tm : Bool) (h : c ≠ c') : (w.setChan c cap buf closed s r tm).heap[c']? = w.heap[c']? := by
  simp [World.setChan, Array.getElem?_setIfInBounds_ne h]
theorem fr_setChan {S : Nat → Prop} {w w1 : World} (h : Fr S w w1) {c : Nat} (hc : c < w.heap.size → S c) (cap : Nat) (buf : Array Value) (cl : Bool) (s r : Nat) (tm : Bool) : Fr S w (w1.setChan c cap buf cl s r tm) :=
  ⟨h.os, h.tape, h.output, by rw [size_setChan]; exact h.size, fun i hi hs => (setChan_other w1 c i cap buf cl s r tm (by rintro rfl; exact hs (hc hi))).trans (h.block i hi hs)⟩

/-- At the head of Send's loop. -/
def SendLoop (S : Nat → Prop) (nb base c : Nat) (v : Value) (l : List Nd) (seq at' : Int) (cu : Value) (m : Option Nat) (ob : Obj) (w : World) (cut : Int → Int → Bool) (ps : List Pk) (p : Option Addr) (n cap : Nat) (a : Act) (wr : World) : Prop :=
  ∃ u3 u4 u5 u8 u9 u10 u11 u12 u13 u14 u15 u16 u17 u18 u19 u20 u21 u22 u23 u27 u28 u29 u30 u31 u32 u33 u34 u35 u36 u37 u38 u39 u40 u41 u42 u43 u44 u45 u46 u47 u48 u49 u50 u51 u52 u53 u54 u55 u56 u57 u58 u59 u60 u61 u62 u63 u64 u65 u66 u67 u68 u69 u70 u71 u72 u73 u74 u75 u76 u77 u78 u79 k acc v' l', k ≤ n ∧ a = { tmps := #[.pointer (some ⟨nb, 0, none⟩), .int .i64 at', .slice p n cap, u3, u4, u5, .int .i64 0, .int .i64 acc.length, u8, u9, u10, u11, u12, u13, u14, u15, u16, u17, u18, u19, u20, u21, u22, u23, .slice p n cap, .int .i64 n, .int .i64 k, u27, u28, u29, u30, u31, u32, u33, u34, u35, u36, u37, u38, u39, u40, u41, u42, u43, u44, u45, u46, u47, u48, u49, u50, u51, u52, u53, u54, u55, u56, u57, u58, u59, u60, u61, u62, u63, u64, u65, u66, u67, u68, u69, u70, u71, u72, u73, u74, u75, u76, u77, u78, u79], defers := [] } ∧ acc = accept cut at' l.length seq (ps.take k) ∧ SendRel (S) w nb base c v l seq cu m ob acc v' l' wr

set_option maxHeartbeats 8000000 in
set_option maxRecDepth 100000 in
/-- Send, where the channel is there. -/
theorem net_send_ch (nb base c : Nat) (v : Value) (l : List Nd) (seq at' : Int) (cu : Value) (m : Option Nat) (ob : Obj) (w : World) (cut : Int → Int → Bool) (ps : List Pk) (p : Option Addr) (n cap : Nat)
    (h : NetI nb base v l seq cu (.chan (some c)) w) (hch : ∃ s r, w.heap[c]? = some (pchan 1 s r #[])) (hcw : CutW m ob w) (hmS : ∀ b, m = some b → ¬ sendS nb v (.chan (some c)) b)
    (hlk : Hid (∀ k, k < n → ∀ W, CutW m ob W → look cu (HL.el ps k).fr (HL.el ps k).to (cut (HL.el ps k).fr (HL.el ps k).to) W))
    (hR : RdG pcells w w.heap.size p n ps) (hRS : ∀ b o, p = some ⟨b, o, none⟩ → ¬ sendS nb v (.chan (some c)) b) (hda : Hid (∀ k, k < n → (HL.el ps k).da.size ≤ 1000000)) (hn : n ≤ 100000) (hs0 : 0 ≤ seq) (hs : seq ≤ 500000) :
    Calls Try.prog 10 #[.pointer (some ⟨nb, 0, none⟩), .int .i64 at', .slice p n cap] w (SendPost (sendS nb v (.chan (some c))) nb base v l seq cu (.chan (some c)) m ob w (accept cut at' l.length seq ps)) := by
  have hc3 := h.c3
  have hlt := cell_lt h.c1
  have hcq := chan_some_nil c
  have HR := Lib.hid hR
  have HRS := Lib.hid hRS
  have HMS := Lib.hid hmS
  have HCW0 := Lib.hid hcw
  have hz := hR.1
  have HZ := Lib.hid hz
  have HI0 : Hid (SendRel (sendS nb v (.chan (some c))) w nb base c v l seq cu m ob [] v l w) := Lib.hid ⟨by simpa using h, by simp, fun g hg => .inl hg, hch, hcw, Fr.refl _ _⟩
  have HSS : Hid (∀ k, netF nb v k → sendS nb v (.chan (some c)) k) := Lib.hid (fun _ h => .inl h)
  have HSC : Hid (c < w.heap.size → sendS nb v (.chan (some c)) c) := Lib.hid (fun _ => .inr rfl)
  have HCC : Hid ((.chan (some c) : Value) = .chan (some c) ∨ w.heap.size ≤ c) := Lib.hid (.inl rfl)
  clear h hch hcw hR hRS hmS hz
  generalize sendS nb v (.chan (some c)) = S at *
  refine calls_of_wpN Try.func10 rfl (by rintro _ ⟨h, _⟩; cases h) ?_
  simp only [Try.ntmps10, List.size_toArray, List.length_cons, List.length_nil, Nat.reduceAdd, Nat.reduceSub, Array.replicate_succ, Array.replicate_zero, List.push_toArray, List.append_toArray, List.nil_append, List.cons_append]
  iterate 4
    refine wpN_seq (wpN_of ?_)
    go_wp2
  clear hcq
  refine wpN_seq (wpN_seq (wpN_of ?_))
  go_wp2
  refine wpN_block ?_
  refine wpN_loop (SendLoop S nb base c v l seq at' cu m ob w cut ps p n cap) (fun a _ => n - (intOf (a.tmps.getD 26 undef)).toNat)
    (by unfold SendLoop; exact ⟨undef, undef, undef, undef, undef, undef, undef, undef, .pointer (some ⟨nb, 0, none⟩), .bool false, .pointer (some ⟨nb, 0, none⟩), .pointer (some ⟨nb, 0, none⟩), .pointer (some ⟨nb, 3, none⟩), .chan (some c), .bool false, undef, undef, undef, undef, undef, undef, undef, undef, undef, undef, undef, undef, undef, undef, undef, undef, undef, undef, undef, undef, undef, undef, undef, undef, undef, undef, undef, undef, undef, undef, undef, undef, undef, undef, undef, undef, undef, undef, undef, undef, undef, undef, undef, undef, undef, undef, undef, undef, undef, undef, undef, undef, undef, undef, undef, undef, undef, 0, [], v, l, Nat.zero_le _, rfl, rfl, HI0.out⟩) ?_
  rintro a wr ⟨u3, u4, u5, u8, u9, u10, u11, u12, u13, u14, u15, u16, u17, u18, u19, u20, u21, u22, u23, u27, u28, u29, u30, u31, u32, u33, u34, u35, u36, u37, u38, u39, u40, u41, u42, u43, u44, u45, u46, u47, u48, u49, u50, u51, u52, u53, u54, u55, u56, u57, u58, u59, u60, u61, u62, u63, u64, u65, u66, u67, u68, u69, u70, u71, u72, u73, u74, u75, u76, u77, u78, u79, k, acc, v', l', hk, rfl, hacc, hI⟩
  -- ROUND
  clear HI0 hc3
  have hal := accept_le cut at' l.length seq ps k (by have := HZ.out; omega)
  have hsn := fun hkl : k < n => (congrArg (accept cut at' l.length seq) (take_el ps k (by have := HZ.out; omega))).trans (accept_snoc cut at' l.length seq (ps.take k) (HL.el ps k))
  have HSN := Lib.hid hsn
  have HACC := Lib.hid hacc
  rw [← hacc] at hal
  clear hsn hacc
  by_cases hkl : k < n
  · obtain ⟨b, o, hp, hb, hc⟩ := HR.out.2 (by omega)
    subst hp
    have hx := rd_pkt HZ.out (fun j u hu => (hI.fr.cell (p := ⟨b, o + j, none⟩) hb (HRS.out b o rfl)).trans (hc j u hu)) k hkl
    have hsz := hI.fr.size
    have hbw : b < wr.heap.size := by omega
    have hls : l.length + acc.length = l'.length := by have := hI.perm.length_eq; rw [List.length_append] at this; omega
    have HSK : Hid (accept cut at' l.length seq (ps.take (k + 1)) = if cut (HL.el ps k).fr (HL.el ps k).to || decide (600 ≤ l.length + acc.length) then acc else acc ++ [⟨(HL.el ps k).fr, (HL.el ps k).to, (HL.el ps k).da, at', seq + acc.length + 1⟩]) := Lib.hid (by rw [HSN.out hkl, ← HACC.out])
    have hdk := hda.out k hkl
    have hlk1 := Lib.hid (hlk.out k hkl)
    have hc2 := hI.net.c2
    have hc3 := hI.net.c3
    obtain ⟨q, d, hv'⟩ := owns_slice hI.net.h.2.2.1
    have hc0 := hI.net.h.1
    rw [hv'] at hc0
    have HV' := Lib.hid hv'
    have hnw := cell_lt hc2
    have HI := Lib.hid hI
    have HC := Lib.hid hc
    clear hI hc HSN hv'
    generalize HL.el ps k = x at *
    generalize hll : l'.length = n' at *
    have HLL := Lib.hid hll
    clear hll
    obtain ⟨x0, x1, x2⟩ := hx
    refine wpN_seq (wpN_of ?_)
    go_wp2
    refine wpN_seq (wpN_of ?_)
    go_wp2
    have HLS := Lib.hid hls
    clear hls
    refine wpN_seq (wpN_block ?_)
    refine wpN_seq (wpN_of ?_)
    go_wp2
    have b0 : (wr.alloc (.cells #[.int .i64 x.fr, .int .i64 x.to, .string x.da] 34)).cell? ⟨wr.heap.size, 0, none⟩ = some (.int .i64 x.fr) := by go_simp
    have b1 : (wr.alloc (.cells #[.int .i64 x.fr, .int .i64 x.to, .string x.da] 34)).cell? ⟨wr.heap.size, 1, none⟩ = some (.int .i64 x.to) := by clear b0; go_simp
    have b2 : (wr.alloc (.cells #[.int .i64 x.fr, .int .i64 x.to, .string x.da] 34)).cell? ⟨wr.heap.size, 2, none⟩ = some (.string x.da) := by clear b0 b1; go_simp
    have f2 : (wr.alloc (.cells #[.int .i64 x.fr, .int .i64 x.to, .string x.da] 34)).frozen? ⟨wr.heap.size, 2, none⟩ = false := by clear b0 b1 b2; go_simp
    have hF1 : Fr (fun _ => False) wr (wr.alloc (.cells #[.int .i64 x.fr, .int .i64 x.to, .string x.da] 34)) := (Fr.refl _ wr).alloc _
    have hz1 : (wr.alloc (.cells #[.int .i64 x.fr, .int .i64 x.to, .string x.da] 34)).heap.size = wr.heap.size + 1 := by simp
    generalize (wr.alloc (.cells #[.int .i64 x.fr, .int .i64 x.to, .string x.da] 34)) = W1 at *
    have c2 : W1.cell? ⟨nb, 2, none⟩ = some cu := (hF1.cell (p := ⟨nb, 2, none⟩) hnw (fun h => h)).trans hc2
    have HF1 := Lib.hid hF1
    have HK := Lib.hid (And.intro hc0 hc3)
    have HZ1 := Lib.hid hz1
    have HB2 := Lib.hid (And.intro b2 f2)
    have hw1 : nb < W1.heap.size := by omega
    have hw2 : wr.heap.size < W1.heap.size := by omega
    have HI1 := Lib.hid (HI.out.keep hF1)
    have HRX := Lib.hid (And.intro x0 (And.intro x1 x2))
    clear hc0 hc3 hF1 hz1 b2 f2 x0 x1 x2 hc2
    refine wpN_seq (wpN_of ?_)
    go_wp2_with fail
    have HCW : Hid (∀ V, Below W1.heap.size W1 V → CutW m ob V) := Lib.hid (fun V hb => HI1.out.cutw.keep (Fr.of_all (S := fun _ => False) hb) (fun _ _ h => h))
    refine Code.wp_mono (Q := fun e a W => ∃ Bt, e = .normal ∧ a = { tmps := #[.pointer (some ⟨nb, 0, none⟩), .int .i64 at', .slice (some ⟨b, o, none⟩) n cap, u3, u4, u5, .int .i64 0, .int .i64 acc.length, u8, .pointer (some ⟨wr.heap.size, 0, none⟩), .pointer (some ⟨Bt, 0, none⟩), .bool (cut x.fr x.to), u12, u13, u14, u15, u16, u17, u18, u19, u20, u21, u22, u23, .slice (some ⟨b, o, none⟩) n cap, .int .i64 n, .int .i64 k, .bool true, .pointer (some ⟨b, o + k * 3, none⟩), .agg #[.int .i64 x.fr, .int .i64 x.to, .string x.da], .tuple #[.agg #[], .bool (cut x.fr x.to)], .pointer (some ⟨nb, 0, none⟩), .pointer (some ⟨nb, 0, none⟩), .pointer (some ⟨nb, 2, none⟩), cu, .pointer (some ⟨wr.heap.size, 0, none⟩), .int .i64 x.fr, .pointer (some ⟨wr.heap.size, 1, none⟩), .int .i64 x.to, .agg #[.int .i64 (min x.fr x.to), .int .i64 (max x.fr x.to)], .tuple #[.agg #[], .bool (cut x.fr x.to)], .agg #[], .bool (cut x.fr x.to), u43, u44, u45, u46, u47, u48, u49, u50, u51, u52, u53, u54, u55, u56, u57, u58, u59, u60, u61, u62, u63, u64, u65, u66, u67, u68, u69, u70, u71, u72, u73, u74, u75, u76, u77, u78, u79], defers := [] } ∧ Hid (Below W1.heap.size W1 W)) ?_ ?_
    rotate_left
    · go_region_held3 (fun w' => w'.cell? ⟨nb, 2, none⟩ = some cu ∧ w'.cell? ⟨wr.heap.size, 0, none⟩ = some (.int .i64 x.fr) ∧ w'.cell? ⟨wr.heap.size, 1, none⟩ = some (.int .i64 x.to))
        (first | go_keep | (go_split_ands; refine ⟨?_, ?_, ?_⟩ <;> exact (hq5.cell (by first | exact hw1 | exact hw2)).trans (by assumption)))
        (first
          | (go_at_call 31; refine (net_ends x.fr x.to _).mono ?_; rintro e w5 ⟨rfl, hb5⟩; have hq5 : Below W1.heap.size W1 w5 := (by first | exact ((Below.refl _ W1).drew).trans hb5 | exact (((Below.refl _ W1).alloc (Nat.le_refl _) _).drew).trans (hb5.mono (by simp))); have hlk5 := hlk1.out w5 (HCW.out w5 hq5); have hlk6 := hlk1.out (w5.alloc (.cells #[] 67)) (HCW.out _ (hq5.alloc hq5.size _)); unfold look at hlk5; unfold look at hlk6))
      all_goals first
        | exact ⟨_, rfl, rfl, Lib.hid hq5⟩
        | exact ⟨_, rfl, rfl, Lib.hid (hq5.alloc hq5.size _)⟩
    rintro e a W2 ⟨Bt, rfl, rfl, HB12⟩
    go_wp2
    have hF12 : Fr (fun _ => False) wr W2 := Fr.trans HF1.out (Fr.of_all (S := fun _ => False) HB12.out) (fun _ h _ => h)
    have c02 := (hF12.cell (p := ⟨nb, 0, none⟩) hnw (fun h => h)).trans HK.out.1
    have c32 := (hF12.cell (p := ⟨nb, 3, none⟩) hnw (fun h => h)).trans HK.out.2
    have bb2 := (HB12.out.cell (p := ⟨wr.heap.size, 2, none⟩) hw2).trans HB2.out.1
    have fb2 := (HB12.out.frozen (p := ⟨wr.heap.size, 2, none⟩) hw2).trans HB2.out.2
    have bb0 := (HB12.out.cell (p := ⟨wr.heap.size, 0, none⟩) hw2).trans b0
    have bb1 := (HB12.out.cell (p := ⟨wr.heap.size, 1, none⟩) hw2).trans b1
    have HF12 := Lib.hid hF12
    have hsz2 := HB12.out.size
    clear hF12 b0 b1 c2 HK HB2 HB12
    by_cases hskip : (cut x.fr x.to || decide (600 ≤ l.length + acc.length)) = true
    · have HSK2 := Lib.hid (HSK.out.trans (if_pos hskip))
      have HI2 := Lib.hid (HI.out.keep HF12.out)
      rcases Bool.or_eq_true_iff.1 hskip with hcut | hfull
      · rw [hcut]
        clear hskip hcut
        refine wpN_seq (wpN_of ?_)
        go_wp2
        refine wpN_of ?_
        go_wp2
        refine ⟨by unfold SendLoop; exact ⟨_, _, _, _, _, _, _, _, _, _, _, _, _, _, _, _, _, _, _, _, _, _, _, _, _, _, _, _, _, _, _, _, _, _, _, _, _, _, _, _, _, _, _, _, _, _, _, _, _, _, _, _, _, _, _, _, _, _, _, _, _, _, _, _, _, _, _, _, _, _, _, _, k + 1, acc, v', l', by omega, rfl, HSK2.out.symm, HI2.out⟩, by simp [intOf]; omega⟩
      · have hcf : cut x.fr x.to = false ∨ cut x.fr x.to = true := by cases cut x.fr x.to <;> simp
        have hfl : ¬ (n' : Int) < 600 := by have := HLS.out; have := of_decide_eq_true hfull; omega
        clear hskip hfull
        rcases hcf with hcut | hcut
        all_goals
          rw [hcut]
          clear hcut
          refine wpN_seq (wpN_of ?_)
          go_wp2
          refine wpN_of ?_
          go_wp2
          refine ⟨by unfold SendLoop; exact ⟨_, _, _, _, _, _, _, _, _, _, _, _, _, _, _, _, _, _, _, _, _, _, _, _, _, _, _, _, _, _, _, _, _, _, _, _, _, _, _, _, _, _, _, _, _, _, _, _, _, _, _, _, _, _, _, _, _, _, _, _, _, _, _, _, _, _, _, _, _, _, _, _, k + 1, acc, v', l', by omega, rfl, HSK2.out.symm, HI2.out⟩, by simp [intOf]; omega⟩
    · have hcut : cut x.fr x.to = false := by cases h : cut x.fr x.to <;> simp_all
      have hfl : (n' : Int) < 600 := by
        have h9 : decide (600 ≤ l.length + acc.length) = false := by cases h : decide (600 ≤ l.length + acc.length) <;> simp_all
        have := of_decide_eq_false h9
        have := HLS.out
        omega
      have HSK2 := Lib.hid (HSK.out.trans (if_neg hskip))
      have HI2 := Lib.hid (HI.out.keep HF12.out)
      rw [hcut]
      clear hskip hcut HSK
      have HCL := Lib.hid (fun w => clone_str x.da w hdk)
      refine wpN_seq (wpN_of ?_)
      go_wp2
      refine wpN_seq (wpN_of ?_)
      go_wp2_with fail
      refine (HCL.out _).mono ?_
      rintro e w3 ⟨rfl, hb3⟩
      have hbl : wr.heap.size < W2.heap.size := by omega
      have hnl : nb < W2.heap.size := by omega
      have d0 := (hb3.cell (p := ⟨wr.heap.size, 0, none⟩) hbl).trans bb0
      have d1 := (hb3.cell (p := ⟨wr.heap.size, 1, none⟩) hbl).trans bb1
      have d2 := (hb3.cell (p := ⟨wr.heap.size, 2, none⟩) hbl).trans bb2
      have e2 := (hb3.frozen (p := ⟨wr.heap.size, 2, none⟩) hbl).trans fb2
      have hF3 : Hid (Fr (fun _ => False) wr w3) := Lib.hid (Fr.trans HF12.out (Fr.of_all (S := fun _ => False) hb3) (fun _ h _ => h))
      have hsz3 := hb3.size
      clear bb0 bb1 bb2 fb2 c02 c32 HCL hb3 HI2
      go_wp2
      have hF4 : Fr (fun _ => False) wr (w3.setCell ⟨wr.heap.size, 2, none⟩ (.string x.da)) := hF3.out.setCell (p := ⟨wr.heap.size, 2, none⟩) (fun h => absurd h (by simp)) _
      have g0 : (w3.setCell ⟨wr.heap.size, 2, none⟩ (.string x.da)).cell? ⟨wr.heap.size, 0, none⟩ = some (.int .i64 x.fr) := by rw [World.cell?_setCell_other _ _ _ _ (by simp)]; exact d0
      have g1 : (w3.setCell ⟨wr.heap.size, 2, none⟩ (.string x.da)).cell? ⟨wr.heap.size, 1, none⟩ = some (.int .i64 x.to) := by rw [World.cell?_setCell_other _ _ _ _ (by simp)]; exact d1
      have g2 : (w3.setCell ⟨wr.heap.size, 2, none⟩ (.string x.da)).cell? ⟨wr.heap.size, 2, none⟩ = some (.string x.da) := cell_set_same _ _ _ _ d2
      have hz4 : (w3.setCell ⟨wr.heap.size, 2, none⟩ (.string x.da)).heap.size = w3.heap.size := by simp [World.setCell]
      generalize w3.setCell ⟨wr.heap.size, 2, none⟩ (.string x.da) = W4 at *
      have HI4 := Lib.hid (HI.out.keep hF4)
      have hc34 := HI4.out.net.c3
      have hz5 : wr.heap.size < W4.heap.size := by omega
      have hz6 : nb < W4.heap.size := by omega
      clear hz4 hsz3 hsz2 hbl hnl
      have HF4 := Lib.hid hF4
      clear d0 d1 d2 e2 hF3 hF4 HF12
      refine wpN_seq (wpN_seq (wpN_seq (wpN_of ?_)))
      go_wp2
      refine wpN_of ?_
      go_wp2
      obtain ⟨s, r, hchan⟩ := HI4.out.chan
      have HCH := Lib.hid hchan
      clear hchan
      refine wpN_seq (wpN_sel_send (v := .agg #[.int .i64 x.fr, .int .i64 x.to, .string x.da]) rfl rfl zero_pkt HCH.out (by simp) ?_)
      have hF5 : Fr (fun k => k = c) W4 (W4.setChan c 1 (#[].push (.agg #[.int .i64 x.fr, .int .i64 x.to, .string x.da])) false (s + 1) r false) := fr_setChan (Fr.refl (fun k => k = c) W4) (fun _ => rfl) _ _ _ _ _ _
      have hch5 : (W4.setChan c 1 (#[].push (.agg #[.int .i64 x.fr, .int .i64 x.to, .string x.da])) false (s + 1) r false).heap[c]? = some (pchan 1 (s + 1) r #[.agg #[.int .i64 x.fr, .int .i64 x.to, .string x.da]]) := heap_setChan _ _ _ _ _ _ _ _ (Array.getElem?_eq_some_iff.1 HCH.out).1
      have hz7 : (W4.setChan c 1 (#[].push (.agg #[.int .i64 x.fr, .int .i64 x.to, .string x.da])) false (s + 1) r false).heap.size = W4.heap.size := size_setChan _ _ _ _ _ _ _ _
      generalize W4.setChan c 1 (#[].push (.agg #[.int .i64 x.fr, .int .i64 x.to, .string x.da])) false (s + 1) r false = W5 at *
      have hnc := HI4.out.net.not_chan HCH.out
      have hc35 : W5.cell? ⟨nb, 3, none⟩ = some (.chan (some c)) := (hF5.cell (p := ⟨nb, 3, none⟩) hz6 (fun e => hnc (.inl (by have : nb = c := e; omega)))).trans hc34
      have HF5 := Lib.hid hF5
      have HC5 := Lib.hid hch5
      have hz8 : Hid (W5.heap.size = W4.heap.size) := Lib.hid hz7
      clear hF5 hch5 hz7 g0 g1 g2 hc34
      go_wp2
      refine wpN_of ?_
      go_wp2
      refine wpN_seq (wpN_of ?_)
      go_wp2
      refine wpN_seq (wpN_sel_recv rfl zero_pkt HC5.out (by simp) ?_)
      have hF6 : Fr (fun k => k = c) W5 (W5.setChan c 1 (#[Value.agg #[.int .i64 x.fr, .int .i64 x.to, .string x.da]].extract 1 #[Value.agg #[.int .i64 x.fr, .int .i64 x.to, .string x.da]].size) false (s + 1) (r + 1) false) := fr_setChan (Fr.refl (fun k => k = c) W5) (fun _ => rfl) _ _ _ _ _ _
      have hch6 : (W5.setChan c 1 (#[Value.agg #[.int .i64 x.fr, .int .i64 x.to, .string x.da]].extract 1 #[Value.agg #[.int .i64 x.fr, .int .i64 x.to, .string x.da]].size) false (s + 1) (r + 1) false).heap[c]? = some (pchan 1 (s + 1) (r + 1) #[]) := heap_setChan _ _ _ _ _ _ _ _ (Array.getElem?_eq_some_iff.1 HC5.out).1
      generalize W5.setChan c 1 (#[Value.agg #[.int .i64 x.fr, .int .i64 x.to, .string x.da]].extract 1 #[Value.agg #[.int .i64 x.fr, .int .i64 x.to, .string x.da]].size) false (s + 1) (r + 1) false = W6 at *
      have hgd : (#[Value.agg #[.int .i64 x.fr, .int .i64 x.to, .string x.da]] : Array Value).getD 0 undef = .agg #[.int .i64 x.fr, .int .i64 x.to, .string x.da] := rfl
      rw [hgd]
      have HF46 := Lib.hid (Fr.trans HF5.out hF6 (fun _ h _ => h))
      have HF47 := Lib.hid (HF46.out.alloc (.cells #[.int .i64 x.fr, .int .i64 x.to, .string x.da] 34))
      have HN7 := Lib.hid (HI4.out.net.keep HF47.out (fun k hk e => by have : k = c := e; rw [this] at hk; exact hnc hk))
      have HC6 := Lib.hid (show (W6.alloc (.cells #[.int .i64 x.fr, .int .i64 x.to, .string x.da] 34)).heap[c]? = some (pchan 1 (s + 1) (r + 1) #[]) from (Below.heap_alloc W6 _ c (Array.getElem?_eq_some_iff.1 hch6).1).trans hch6)
      have hlen : l'.length < 1000000 := by have := HLL.out; omega
      clear hF6 hch6 hgd HF5 HC5 hc35
      have HPU := Lib.hid (net_push nb base v' l' (seq + acc.length) at' x.fr x.to x.da cu (.chan (some c)) _ HN7.out (by omega) (by omega) hlen)
      clear hnc
      go_wp2
      refine wpN_of ?_
      go_wp2_with fail
      refine HPU.out.mono ?_
      rintro e w8 ⟨rfl, v3, l3, hN3, hp3, hF3, hl3⟩
      have HI8 := Lib.hid (HI4.out.pushed HSS.out HSC.out HMS.out HCW0.out HF47.out HC6.out hN3 hp3 hF3 hl3)
      clear hN3 hp3 hF3 hl3 HPU
      go_wp2
      have hce : (acc.length : Int) + 1 = ((acc ++ [(⟨x.fr, x.to, x.da, at', seq + acc.length + 1⟩ : Nd)]).length : Int) := by simp
      rw [hce]
      clear hce
      refine wpN_of ?_
      go_wp2
      refine ⟨by unfold SendLoop; exact ⟨_, _, _, _, _, _, _, _, _, _, _, _, _, _, _, _, _, _, _, _, _, _, _, _, _, _, _, _, _, _, _, _, _, _, _, _, _, _, _, _, _, _, _, _, _, _, _, _, _, _, _, _, _, _, _, _, _, _, _, _, _, _, _, _, _, _, _, _, _, _, _, _, k + 1, (acc ++ [⟨x.fr, x.to, x.da, at', seq + acc.length + 1⟩]), v3, l3, by omega, rfl, HSK2.out.symm, HI8.out⟩, by simp [intOf]; omega⟩
  · obtain rfl : k = n := by omega
    have HI1 := Lib.hid hI
    have HAC : Hid (acc = accept cut at' l.length seq ps) := Lib.hid (by rw [HACC.out, List.take_of_length_le (by have := HZ.out; omega)])
    clear hI HSN HACC
    refine wpN_seq (wpN_of ?_)
    go_wp2
    refine wpN_of ?_
    go_wp2
    refine wpN_of ?_
    go_wp2
    go_ret
    refine ⟨by rw [HAC.out]; rfl, c, v', l', ?_, by first | exact .inl rfl | exact HCC.out⟩
    rw [← HAC.out]
    exact HI1.out

set_option maxHeartbeats 8000000 in
set_option maxRecDepth 100000 in
/-- Send, where the channel is not there yet. -/
theorem net_send_nil (nb base : Nat) (v : Value) (l : List Nd) (seq at' : Int) (cu : Value) (m : Option Nat) (ob : Obj) (w : World) (cut : Int → Int → Bool) (ps : List Pk) (p : Option Addr) (n cap : Nat)
    (h : NetI nb base v l seq cu (.chan none) w) (hcw : CutW m ob w) (hmS : ∀ b, m = some b → ¬ sendS nb v (.chan none) b)
    (hlk : Hid (∀ k, k < n → ∀ W, CutW m ob W → look cu (HL.el ps k).fr (HL.el ps k).to (cut (HL.el ps k).fr (HL.el ps k).to) W))
    (hR : RdG pcells w w.heap.size p n ps) (hRS : ∀ b o, p = some ⟨b, o, none⟩ → ¬ sendS nb v (.chan none) b) (hda : Hid (∀ k, k < n → (HL.el ps k).da.size ≤ 1000000)) (hn : n ≤ 100000) (hs0 : 0 ≤ seq) (hs : seq ≤ 500000) :
    Calls Try.prog 10 #[.pointer (some ⟨nb, 0, none⟩), .int .i64 at', .slice p n cap] w (SendPost (sendS nb v (.chan none)) nb base v l seq cu (.chan none) m ob w (accept cut at' l.length seq ps)) := by
  have hc3 := h.c3
  have hf3 := h.f3
  have hlt : nb < w.heap.size := cell_lt h.c1
  have hcq := chan_nil_nil
  have hmk := make_pchan
  have HR := Lib.hid hR
  have HRS := Lib.hid hRS
  have HMS := Lib.hid hmS
  have HCW0 := Lib.hid hcw
  have hz := hR.1
  have HZ := Lib.hid hz
  obtain ⟨c, hcd⟩ : ∃ c, w.heap.size = c := ⟨_, rfl⟩
  have hFA : Fr (fun _ => False) w (w.alloc (pchan 1 0 0 #[])) := (Fr.refl _ w).alloc _
  have hNA := (h.keep hFA (fun _ _ h => h)).ch_set (.chan (some c))
  have HI0 : Hid (SendRel (sendS nb v (.chan none)) w nb base c v l seq cu m ob [] v l ((w.setCell ⟨nb, 3, none⟩ (.chan (some c))).alloc (pchan 1 0 0 #[]))) := Lib.hid (by
    rw [← World.setCell_alloc_past (pchan 1 0 0 #[]) nb 3 (.chan (some c)) hlt]
    have hch : (w.alloc (pchan 1 0 0 #[])).heap[c]? = some (pchan 1 0 0 #[]) := by rw [← hcd]; exact heap_alloc_new w _
    have hFW := Fr.trans hFA hNA.2 (S := fun _ => False) |> fun _ => Fr.trans (hFA.mono (T := sendS nb v (.chan none)) (fun _ _ h => h.elim)) hNA.2 (fun i hi _ => .inl (.inl hi))
    refine ⟨by simpa using hNA.1, by simp, fun g hg => .inl hg, ⟨0, 0, (hNA.2.block c (Array.getElem?_eq_some_iff.1 hch).1 (fun e => by have e9 : c = nb := e; omega)).trans hch⟩, hcw.keep hFW hmS, hFW⟩)
  have HSS : Hid (∀ k, netF nb v k → sendS nb v (.chan none) k) := Lib.hid (fun _ h => .inl h)
  have HSC : Hid (c < w.heap.size → sendS nb v (.chan none) c) := Lib.hid (fun h => by omega)
  have HCC : Hid ((.chan none : Value) = .chan (some c) ∨ w.heap.size ≤ c) := Lib.hid (.inr (by omega))
  have HCD := Lib.hid hcd
  clear h hcw hR hRS hmS hz hFA hNA hcd
  generalize sendS nb v (.chan none) = S at *
  refine calls_of_wpN Try.func10 rfl (by rintro _ ⟨h, _⟩; cases h) ?_
  simp only [Try.ntmps10, List.size_toArray, List.length_cons, List.length_nil, Nat.reduceAdd, Nat.reduceSub, Array.replicate_succ, Array.replicate_zero, List.push_toArray, List.append_toArray, List.nil_append, List.cons_append]
  iterate 2
    refine wpN_seq (wpN_of ?_)
    go_wp2
  refine wpN_seq (wpN_of ?_)
  go_wp2
  rw [HCD.out]
  clear hmk
  refine wpN_seq (wpN_of ?_)
  go_wp2
  clear hcq
  refine wpN_seq (wpN_seq (wpN_of ?_))
  go_wp2
  refine wpN_block ?_
  refine wpN_loop (SendLoop S nb base c v l seq at' cu m ob w cut ps p n cap) (fun a _ => n - (intOf (a.tmps.getD 26 undef)).toNat)
    (by unfold SendLoop; exact ⟨undef, undef, undef, undef, undef, undef, undef, undef, .pointer (some ⟨nb, 0, none⟩), .bool false, .pointer (some ⟨nb, 0, none⟩), .pointer (some ⟨nb, 0, none⟩), .pointer (some ⟨nb, 3, none⟩), .chan none, .bool true, .pointer (some ⟨nb, 0, none⟩), .chan (some c), .pointer (some ⟨nb, 0, none⟩), .pointer (some ⟨nb, 3, none⟩), undef, undef, undef, undef, undef, undef, undef, undef, undef, undef, undef, undef, undef, undef, undef, undef, undef, undef, undef, undef, undef, undef, undef, undef, undef, undef, undef, undef, undef, undef, undef, undef, undef, undef, undef, undef, undef, undef, undef, undef, undef, undef, undef, undef, undef, undef, undef, undef, undef, undef, undef, undef, undef, 0, [], v, l, Nat.zero_le _, rfl, rfl, HI0.out⟩) ?_
  rintro a wr ⟨u3, u4, u5, u8, u9, u10, u11, u12, u13, u14, u15, u16, u17, u18, u19, u20, u21, u22, u23, u27, u28, u29, u30, u31, u32, u33, u34, u35, u36, u37, u38, u39, u40, u41, u42, u43, u44, u45, u46, u47, u48, u49, u50, u51, u52, u53, u54, u55, u56, u57, u58, u59, u60, u61, u62, u63, u64, u65, u66, u67, u68, u69, u70, u71, u72, u73, u74, u75, u76, u77, u78, u79, k, acc, v', l', hk, rfl, hacc, hI⟩
  -- ROUND
  clear HI0 hc3
  have hal := accept_le cut at' l.length seq ps k (by have := HZ.out; omega)
  have hsn := fun hkl : k < n => (congrArg (accept cut at' l.length seq) (take_el ps k (by have := HZ.out; omega))).trans (accept_snoc cut at' l.length seq (ps.take k) (HL.el ps k))
  have HSN := Lib.hid hsn
  have HACC := Lib.hid hacc
  rw [← hacc] at hal
  clear hsn hacc
  by_cases hkl : k < n
  · obtain ⟨b, o, hp, hb, hc⟩ := HR.out.2 (by omega)
    subst hp
    have hx := rd_pkt HZ.out (fun j u hu => (hI.fr.cell (p := ⟨b, o + j, none⟩) hb (HRS.out b o rfl)).trans (hc j u hu)) k hkl
    have hsz := hI.fr.size
    have hbw : b < wr.heap.size := by omega
    have hls : l.length + acc.length = l'.length := by have := hI.perm.length_eq; rw [List.length_append] at this; omega
    have HSK : Hid (accept cut at' l.length seq (ps.take (k + 1)) = if cut (HL.el ps k).fr (HL.el ps k).to || decide (600 ≤ l.length + acc.length) then acc else acc ++ [⟨(HL.el ps k).fr, (HL.el ps k).to, (HL.el ps k).da, at', seq + acc.length + 1⟩]) := Lib.hid (by rw [HSN.out hkl, ← HACC.out])
    have hdk := hda.out k hkl
    have hlk1 := Lib.hid (hlk.out k hkl)
    have hc2 := hI.net.c2
    have hc3 := hI.net.c3
    obtain ⟨q, d, hv'⟩ := owns_slice hI.net.h.2.2.1
    have hc0 := hI.net.h.1
    rw [hv'] at hc0
    have HV' := Lib.hid hv'
    have hnw := cell_lt hc2
    have HI := Lib.hid hI
    have HC := Lib.hid hc
    clear hI hc HSN hv'
    generalize HL.el ps k = x at *
    generalize hll : l'.length = n' at *
    have HLL := Lib.hid hll
    clear hll
    obtain ⟨x0, x1, x2⟩ := hx
    refine wpN_seq (wpN_of ?_)
    go_wp2
    refine wpN_seq (wpN_of ?_)
    go_wp2
    have HLS := Lib.hid hls
    clear hls
    refine wpN_seq (wpN_block ?_)
    refine wpN_seq (wpN_of ?_)
    go_wp2
    have b0 : (wr.alloc (.cells #[.int .i64 x.fr, .int .i64 x.to, .string x.da] 34)).cell? ⟨wr.heap.size, 0, none⟩ = some (.int .i64 x.fr) := by go_simp
    have b1 : (wr.alloc (.cells #[.int .i64 x.fr, .int .i64 x.to, .string x.da] 34)).cell? ⟨wr.heap.size, 1, none⟩ = some (.int .i64 x.to) := by clear b0; go_simp
    have b2 : (wr.alloc (.cells #[.int .i64 x.fr, .int .i64 x.to, .string x.da] 34)).cell? ⟨wr.heap.size, 2, none⟩ = some (.string x.da) := by clear b0 b1; go_simp
    have f2 : (wr.alloc (.cells #[.int .i64 x.fr, .int .i64 x.to, .string x.da] 34)).frozen? ⟨wr.heap.size, 2, none⟩ = false := by clear b0 b1 b2; go_simp
    have hF1 : Fr (fun _ => False) wr (wr.alloc (.cells #[.int .i64 x.fr, .int .i64 x.to, .string x.da] 34)) := (Fr.refl _ wr).alloc _
    have hz1 : (wr.alloc (.cells #[.int .i64 x.fr, .int .i64 x.to, .string x.da] 34)).heap.size = wr.heap.size + 1 := by simp
    generalize (wr.alloc (.cells #[.int .i64 x.fr, .int .i64 x.to, .string x.da] 34)) = W1 at *
    have c2 : W1.cell? ⟨nb, 2, none⟩ = some cu := (hF1.cell (p := ⟨nb, 2, none⟩) hnw (fun h => h)).trans hc2
    have HF1 := Lib.hid hF1
    have HK := Lib.hid (And.intro hc0 hc3)
    have HZ1 := Lib.hid hz1
    have HB2 := Lib.hid (And.intro b2 f2)
    have hw1 : nb < W1.heap.size := by omega
    have hw2 : wr.heap.size < W1.heap.size := by omega
    have HI1 := Lib.hid (HI.out.keep hF1)
    have HRX := Lib.hid (And.intro x0 (And.intro x1 x2))
    clear hc0 hc3 hF1 hz1 b2 f2 x0 x1 x2 hc2
    refine wpN_seq (wpN_of ?_)
    go_wp2_with fail
    have HCW : Hid (∀ V, Below W1.heap.size W1 V → CutW m ob V) := Lib.hid (fun V hb => HI1.out.cutw.keep (Fr.of_all (S := fun _ => False) hb) (fun _ _ h => h))
    refine Code.wp_mono (Q := fun e a W => ∃ Bt, e = .normal ∧ a = { tmps := #[.pointer (some ⟨nb, 0, none⟩), .int .i64 at', .slice (some ⟨b, o, none⟩) n cap, u3, u4, u5, .int .i64 0, .int .i64 acc.length, u8, .pointer (some ⟨wr.heap.size, 0, none⟩), .pointer (some ⟨Bt, 0, none⟩), .bool (cut x.fr x.to), u12, u13, u14, u15, u16, u17, u18, u19, u20, u21, u22, u23, .slice (some ⟨b, o, none⟩) n cap, .int .i64 n, .int .i64 k, .bool true, .pointer (some ⟨b, o + k * 3, none⟩), .agg #[.int .i64 x.fr, .int .i64 x.to, .string x.da], .tuple #[.agg #[], .bool (cut x.fr x.to)], .pointer (some ⟨nb, 0, none⟩), .pointer (some ⟨nb, 0, none⟩), .pointer (some ⟨nb, 2, none⟩), cu, .pointer (some ⟨wr.heap.size, 0, none⟩), .int .i64 x.fr, .pointer (some ⟨wr.heap.size, 1, none⟩), .int .i64 x.to, .agg #[.int .i64 (min x.fr x.to), .int .i64 (max x.fr x.to)], .tuple #[.agg #[], .bool (cut x.fr x.to)], .agg #[], .bool (cut x.fr x.to), u43, u44, u45, u46, u47, u48, u49, u50, u51, u52, u53, u54, u55, u56, u57, u58, u59, u60, u61, u62, u63, u64, u65, u66, u67, u68, u69, u70, u71, u72, u73, u74, u75, u76, u77, u78, u79], defers := [] } ∧ Hid (Below W1.heap.size W1 W)) ?_ ?_
    rotate_left
    · go_region_held3 (fun w' => w'.cell? ⟨nb, 2, none⟩ = some cu ∧ w'.cell? ⟨wr.heap.size, 0, none⟩ = some (.int .i64 x.fr) ∧ w'.cell? ⟨wr.heap.size, 1, none⟩ = some (.int .i64 x.to))
        (first | go_keep | (go_split_ands; refine ⟨?_, ?_, ?_⟩ <;> exact (hq5.cell (by first | exact hw1 | exact hw2)).trans (by assumption)))
        (first
          | (go_at_call 31; refine (net_ends x.fr x.to _).mono ?_; rintro e w5 ⟨rfl, hb5⟩; have hq5 : Below W1.heap.size W1 w5 := (by first | exact ((Below.refl _ W1).drew).trans hb5 | exact (((Below.refl _ W1).alloc (Nat.le_refl _) _).drew).trans (hb5.mono (by simp))); have hlk5 := hlk1.out w5 (HCW.out w5 hq5); have hlk6 := hlk1.out (w5.alloc (.cells #[] 67)) (HCW.out _ (hq5.alloc hq5.size _)); unfold look at hlk5; unfold look at hlk6))
      all_goals first
        | exact ⟨_, rfl, rfl, Lib.hid hq5⟩
        | exact ⟨_, rfl, rfl, Lib.hid (hq5.alloc hq5.size _)⟩
    rintro e a W2 ⟨Bt, rfl, rfl, HB12⟩
    go_wp2
    have hF12 : Fr (fun _ => False) wr W2 := Fr.trans HF1.out (Fr.of_all (S := fun _ => False) HB12.out) (fun _ h _ => h)
    have c02 := (hF12.cell (p := ⟨nb, 0, none⟩) hnw (fun h => h)).trans HK.out.1
    have c32 := (hF12.cell (p := ⟨nb, 3, none⟩) hnw (fun h => h)).trans HK.out.2
    have bb2 := (HB12.out.cell (p := ⟨wr.heap.size, 2, none⟩) hw2).trans HB2.out.1
    have fb2 := (HB12.out.frozen (p := ⟨wr.heap.size, 2, none⟩) hw2).trans HB2.out.2
    have bb0 := (HB12.out.cell (p := ⟨wr.heap.size, 0, none⟩) hw2).trans b0
    have bb1 := (HB12.out.cell (p := ⟨wr.heap.size, 1, none⟩) hw2).trans b1
    have HF12 := Lib.hid hF12
    have hsz2 := HB12.out.size
    clear hF12 b0 b1 c2 HK HB2 HB12
    by_cases hskip : (cut x.fr x.to || decide (600 ≤ l.length + acc.length)) = true
    · have HSK2 := Lib.hid (HSK.out.trans (if_pos hskip))
      have HI2 := Lib.hid (HI.out.keep HF12.out)
      rcases Bool.or_eq_true_iff.1 hskip with hcut | hfull
      · rw [hcut]
        clear hskip hcut
        refine wpN_seq (wpN_of ?_)
        go_wp2
        refine wpN_of ?_
        go_wp2
        refine ⟨by unfold SendLoop; exact ⟨_, _, _, _, _, _, _, _, _, _, _, _, _, _, _, _, _, _, _, _, _, _, _, _, _, _, _, _, _, _, _, _, _, _, _, _, _, _, _, _, _, _, _, _, _, _, _, _, _, _, _, _, _, _, _, _, _, _, _, _, _, _, _, _, _, _, _, _, _, _, _, _, k + 1, acc, v', l', by omega, rfl, HSK2.out.symm, HI2.out⟩, by simp [intOf]; omega⟩
      · have hcf : cut x.fr x.to = false ∨ cut x.fr x.to = true := by cases cut x.fr x.to <;> simp
        have hfl : ¬ (n' : Int) < 600 := by have := HLS.out; have := of_decide_eq_true hfull; omega
        clear hskip hfull
        rcases hcf with hcut | hcut
        all_goals
          rw [hcut]
          clear hcut
          refine wpN_seq (wpN_of ?_)
          go_wp2
          refine wpN_of ?_
          go_wp2
          refine ⟨by unfold SendLoop; exact ⟨_, _, _, _, _, _, _, _, _, _, _, _, _, _, _, _, _, _, _, _, _, _, _, _, _, _, _, _, _, _, _, _, _, _, _, _, _, _, _, _, _, _, _, _, _, _, _, _, _, _, _, _, _, _, _, _, _, _, _, _, _, _, _, _, _, _, _, _, _, _, _, _, k + 1, acc, v', l', by omega, rfl, HSK2.out.symm, HI2.out⟩, by simp [intOf]; omega⟩
    · have hcut : cut x.fr x.to = false := by cases h : cut x.fr x.to <;> simp_all
      have hfl : (n' : Int) < 600 := by
        have h9 : decide (600 ≤ l.length + acc.length) = false := by cases h : decide (600 ≤ l.length + acc.length) <;> simp_all
        have := of_decide_eq_false h9
        have := HLS.out
        omega
      have HSK2 := Lib.hid (HSK.out.trans (if_neg hskip))
      have HI2 := Lib.hid (HI.out.keep HF12.out)
      rw [hcut]
      clear hskip hcut HSK
      have HCL := Lib.hid (fun w => clone_str x.da w hdk)
      refine wpN_seq (wpN_of ?_)
      go_wp2
      refine wpN_seq (wpN_of ?_)
      go_wp2_with fail
      refine (HCL.out _).mono ?_
      rintro e w3 ⟨rfl, hb3⟩
      have hbl : wr.heap.size < W2.heap.size := by omega
      have hnl : nb < W2.heap.size := by omega
      have d0 := (hb3.cell (p := ⟨wr.heap.size, 0, none⟩) hbl).trans bb0
      have d1 := (hb3.cell (p := ⟨wr.heap.size, 1, none⟩) hbl).trans bb1
      have d2 := (hb3.cell (p := ⟨wr.heap.size, 2, none⟩) hbl).trans bb2
      have e2 := (hb3.frozen (p := ⟨wr.heap.size, 2, none⟩) hbl).trans fb2
      have hF3 : Hid (Fr (fun _ => False) wr w3) := Lib.hid (Fr.trans HF12.out (Fr.of_all (S := fun _ => False) hb3) (fun _ h _ => h))
      have hsz3 := hb3.size
      clear bb0 bb1 bb2 fb2 c02 c32 HCL hb3 HI2
      go_wp2
      have hF4 : Fr (fun _ => False) wr (w3.setCell ⟨wr.heap.size, 2, none⟩ (.string x.da)) := hF3.out.setCell (p := ⟨wr.heap.size, 2, none⟩) (fun h => absurd h (by simp)) _
      have g0 : (w3.setCell ⟨wr.heap.size, 2, none⟩ (.string x.da)).cell? ⟨wr.heap.size, 0, none⟩ = some (.int .i64 x.fr) := by rw [World.cell?_setCell_other _ _ _ _ (by simp)]; exact d0
      have g1 : (w3.setCell ⟨wr.heap.size, 2, none⟩ (.string x.da)).cell? ⟨wr.heap.size, 1, none⟩ = some (.int .i64 x.to) := by rw [World.cell?_setCell_other _ _ _ _ (by simp)]; exact d1
      have g2 : (w3.setCell ⟨wr.heap.size, 2, none⟩ (.string x.da)).cell? ⟨wr.heap.size, 2, none⟩ = some (.string x.da) := cell_set_same _ _ _ _ d2
      have hz4 : (w3.setCell ⟨wr.heap.size, 2, none⟩ (.string x.da)).heap.size = w3.heap.size := by simp [World.setCell]
      generalize w3.setCell ⟨wr.heap.size, 2, none⟩ (.string x.da) = W4 at *
      have HI4 := Lib.hid (HI.out.keep hF4)
      have hc34 := HI4.out.net.c3
      have hz5 : wr.heap.size < W4.heap.size := by omega
      have hz6 : nb < W4.heap.size := by omega
      clear hz4 hsz3 hsz2 hbl hnl
      have HF4 := Lib.hid hF4
      clear d0 d1 d2 e2 hF3 hF4 HF12
      refine wpN_seq (wpN_seq (wpN_seq (wpN_of ?_)))
      go_wp2
      refine wpN_of ?_
      go_wp2
      obtain ⟨s, r, hchan⟩ := HI4.out.chan
      have HCH := Lib.hid hchan
      clear hchan
      refine wpN_seq (wpN_sel_send (v := .agg #[.int .i64 x.fr, .int .i64 x.to, .string x.da]) rfl rfl zero_pkt HCH.out (by simp) ?_)
      have hF5 : Fr (fun k => k = c) W4 (W4.setChan c 1 (#[].push (.agg #[.int .i64 x.fr, .int .i64 x.to, .string x.da])) false (s + 1) r false) := fr_setChan (Fr.refl (fun k => k = c) W4) (fun _ => rfl) _ _ _ _ _ _
      have hch5 : (W4.setChan c 1 (#[].push (.agg #[.int .i64 x.fr, .int .i64 x.to, .string x.da])) false (s + 1) r false).heap[c]? = some (pchan 1 (s + 1) r #[.agg #[.int .i64 x.fr, .int .i64 x.to, .string x.da]]) := heap_setChan _ _ _ _ _ _ _ _ (Array.getElem?_eq_some_iff.1 HCH.out).1
      have hz7 : (W4.setChan c 1 (#[].push (.agg #[.int .i64 x.fr, .int .i64 x.to, .string x.da])) false (s + 1) r false).heap.size = W4.heap.size := size_setChan _ _ _ _ _ _ _ _
      generalize W4.setChan c 1 (#[].push (.agg #[.int .i64 x.fr, .int .i64 x.to, .string x.da])) false (s + 1) r false = W5 at *
      have hnc := HI4.out.net.not_chan HCH.out
      have hc35 : W5.cell? ⟨nb, 3, none⟩ = some (.chan (some c)) := (hF5.cell (p := ⟨nb, 3, none⟩) hz6 (fun e => hnc (.inl (by have : nb = c := e; omega)))).trans hc34
      have HF5 := Lib.hid hF5
      have HC5 := Lib.hid hch5
      have hz8 : Hid (W5.heap.size = W4.heap.size) := Lib.hid hz7
      clear hF5 hch5 hz7 g0 g1 g2 hc34
      go_wp2
      refine wpN_of ?_
      go_wp2
      refine wpN_seq (wpN_of ?_)
      go_wp2
      refine wpN_seq (wpN_sel_recv rfl zero_pkt HC5.out (by simp) ?_)
      have hF6 : Fr (fun k => k = c) W5 (W5.setChan c 1 (#[Value.agg #[.int .i64 x.fr, .int .i64 x.to, .string x.da]].extract 1 #[Value.agg #[.int .i64 x.fr, .int .i64 x.to, .string x.da]].size) false (s + 1) (r + 1) false) := fr_setChan (Fr.refl (fun k => k = c) W5) (fun _ => rfl) _ _ _ _ _ _
      have hch6 : (W5.setChan c 1 (#[Value.agg #[.int .i64 x.fr, .int .i64 x.to, .string x.da]].extract 1 #[Value.agg #[.int .i64 x.fr, .int .i64 x.to, .string x.da]].size) false (s + 1) (r + 1) false).heap[c]? = some (pchan 1 (s + 1) (r + 1) #[]) := heap_setChan _ _ _ _ _ _ _ _ (Array.getElem?_eq_some_iff.1 HC5.out).1
      generalize W5.setChan c 1 (#[Value.agg #[.int .i64 x.fr, .int .i64 x.to, .string x.da]].extract 1 #[Value.agg #[.int .i64 x.fr, .int .i64 x.to, .string x.da]].size) false (s + 1) (r + 1) false = W6 at *
      have hgd : (#[Value.agg #[.int .i64 x.fr, .int .i64 x.to, .string x.da]] : Array Value).getD 0 undef = .agg #[.int .i64 x.fr, .int .i64 x.to, .string x.da] := rfl
      rw [hgd]
      have HF46 := Lib.hid (Fr.trans HF5.out hF6 (fun _ h _ => h))
      have HF47 := Lib.hid (HF46.out.alloc (.cells #[.int .i64 x.fr, .int .i64 x.to, .string x.da] 34))
      have HN7 := Lib.hid (HI4.out.net.keep HF47.out (fun k hk e => by have : k = c := e; rw [this] at hk; exact hnc hk))
      have HC6 := Lib.hid (show (W6.alloc (.cells #[.int .i64 x.fr, .int .i64 x.to, .string x.da] 34)).heap[c]? = some (pchan 1 (s + 1) (r + 1) #[]) from (Below.heap_alloc W6 _ c (Array.getElem?_eq_some_iff.1 hch6).1).trans hch6)
      have hlen : l'.length < 1000000 := by have := HLL.out; omega
      clear hF6 hch6 hgd HF5 HC5 hc35
      have HPU := Lib.hid (net_push nb base v' l' (seq + acc.length) at' x.fr x.to x.da cu (.chan (some c)) _ HN7.out (by omega) (by omega) hlen)
      clear hnc
      go_wp2
      refine wpN_of ?_
      go_wp2_with fail
      refine HPU.out.mono ?_
      rintro e w8 ⟨rfl, v3, l3, hN3, hp3, hF3, hl3⟩
      have HI8 := Lib.hid (HI4.out.pushed HSS.out HSC.out HMS.out HCW0.out HF47.out HC6.out hN3 hp3 hF3 hl3)
      clear hN3 hp3 hF3 hl3 HPU
      go_wp2
      have hce : (acc.length : Int) + 1 = ((acc ++ [(⟨x.fr, x.to, x.da, at', seq + acc.length + 1⟩ : Nd)]).length : Int) := by simp
      rw [hce]
      clear hce
      refine wpN_of ?_
      go_wp2
      refine ⟨by unfold SendLoop; exact ⟨_, _, _, _, _, _, _, _, _, _, _, _, _, _, _, _, _, _, _, _, _, _, _, _, _, _, _, _, _, _, _, _, _, _, _, _, _, _, _, _, _, _, _, _, _, _, _, _, _, _, _, _, _, _, _, _, _, _, _, _, _, _, _, _, _, _, _, _, _, _, _, _, k + 1, (acc ++ [⟨x.fr, x.to, x.da, at', seq + acc.length + 1⟩]), v3, l3, by omega, rfl, HSK2.out.symm, HI8.out⟩, by simp [intOf]; omega⟩
  · obtain rfl : k = n := by omega
    have HI1 := Lib.hid hI
    have HAC : Hid (acc = accept cut at' l.length seq ps) := Lib.hid (by rw [HACC.out, List.take_of_length_le (by have := HZ.out; omega)])
    clear hI HSN HACC
    refine wpN_seq (wpN_of ?_)
    go_wp2
    refine wpN_of ?_
    go_wp2
    refine wpN_of ?_
    go_wp2
    go_ret
    refine ⟨by rw [HAC.out]; rfl, c, v', l', ?_, by first | exact .inl rfl | exact HCC.out⟩
    rw [← HAC.out]
    exact HI1.out
end Go.Proofs.Ythdpajgnigilhaa

/- container/heap's Remove over any value of heap.Interface whose methods meet their contracts. -/
namespace Go.Proofs.Ythdpajgnigilhaa
open Go.RowKit

theorem pop_fin {α : Type} [Inhabited α] {lt : α → α → Bool} {it : Value} {I : List α → World → Prop} {F : World → World → Prop} {w w3 : World} {K : Value → World → Prop} {l0 l' : List α} {n i : Nat}
    (hP : ∀ l w1, I (l ++ [HL.el l0 i]) w1 → F w w1 → (HL.el l0 i :: l).Perm l0 → HL.IsHeap lt l → InvC Try.prog it "Pop" #[] w1 K)
    (hl : l0.length = n + 1) (hi : i < n + 1) (hp : l'.Perm (HL.swp l0 i n)) (hh : HL.HeapTo lt 0 l' n) (hk : HL.el l' n = HL.el (HL.swp l0 i n) n) (hI : I l' w3) (hF : F w w3) : InvC Try.prog it "Pop" #[] w3 K := by
  obtain ⟨e1, e2, e3⟩ := pop_end hl hi hp hh hk
  rw [e1] at hI
  exact hP _ _ hI hF e2 e3

theorem down_cases {α : Type} [Inhabited α] {lt : α → α → Bool} {l l0 : List α} {lo n i0 : Nat} (b : Bool) (h0 : b = false → l = l0 ∧ ∀ k, 0 < k → k < n → lo ≤ (k - 1) / 2 → k ≠ i0 → HL.okAt lt l k) (h1 : b = true → HL.HeapTo lt lo l n) :
    (b = false ∧ l = l0 ∧ Hid (∀ k, 0 < k → k < n → lo ≤ (k - 1) / 2 → k ≠ i0 → HL.okAt lt l0 k)) ∨ (b = true ∧ HL.HeapTo lt lo l n) := by
  cases b with
  | false => obtain ⟨rfl, h⟩ := h0 rfl; exact .inl ⟨rfl, rfl, h⟩
  | true => exact .inr ⟨rfl, h1 rfl⟩

set_option maxHeartbeats 400000 in
theorem heap_remove {α : Type} [Inhabited α] {lt : α → α → Bool} {it : Value} {I : List α → World → Prop} {F : World → World → Prop} (H : HeapRep Try.prog it lt I F) {w : World} {K : Value → World → Prop} (l0 : List α)
    (h0 : I l0 w) (i : Int) (hi0 : 0 ≤ i) (hi : i < l0.length) (hh : HL.IsHeap lt l0)
    (hP : ∀ l w1, I (l ++ [HL.el l0 i.toNat]) w1 → F w w1 → (HL.el l0 i.toNat :: l).Perm l0 → HL.IsHeap lt l → InvC Try.prog it "Pop" #[] w1 K) :
    Calls Try.prog 36 #[it, .int .i64 i] w fun e w' => ∃ v, e = .returned v ∧ K v w' := by
  obtain ⟨i, rfl⟩ := Int.eq_ofNat_of_zero_le hi0
  simp only [Int.toNat_natCast] at hP
  have HP := Lib.hid hP; clear hP
  have HH := Lib.hid H; clear H
  have hsm := HH.out.small _ _ h0
  obtain ⟨n, hn⟩ : ∃ n, l0.length = n + 1 := ⟨l0.length - 1, by omega⟩
  have hin : i < n + 1 := by omega
  have HLen := Lib.hid (HH.out.len _ _ h0)
  rw [hn] at HLen hsm
  have HN := Lib.hid hn
  have HHP := Lib.hid hh
  by_cases e : i = n
  · subst e
    have e1 := HL.split_last hn
    have hne : ((i : Int) != (i : Int)) = false := by simp
    have HPI : Hid (∀ w1, I l0 w1 → F w w1 → InvC Try.prog it "Pop" #[] w1 K) := fun w1 h1 hf => HP.out (l0.take i) w1 (by rw [← e1]; exact h1) hf
      ((List.perm_append_singleton _ _).symm.trans (List.Perm.of_eq e1.symm)) (HL.isHeap_take (by omega) (fun k k0 kn kl => hh k k0 (by omega) kl))
    clear hn hh hi e1
    go_enter Try.func36, Try.ntmps36
    go_wp2_with (first
      | ((with_reducible refine wpI0 HLen.out ?_ ?_ ?_); rfl; rfl; rintro v w1 ⟨rfl, hI1, hF1⟩; clear HLen)
      | ((with_reducible refine wpI0 (HPI.out _ hI1 hF1) ?_ ?_ ?_); rfl; rfl; rintro v w4 hK4))
    go_ret
    exact ⟨_, rfl, hK4⟩
  · have hne : ((n : Int) != (i : Int)) = true := by rw [bne_iff_ne]; omega
    have hi' : i < n := by omega
    have HSW := Lib.hid (fun w1 (h : I l0 w1) => HH.out.swap l0 w1 h i n (by omega) (by omega) (by omega) (by omega))
    have HD := Lib.hid (HL.downInv_pop hn hi' HH.out.ord hh)
    have hls : n ≤ (HL.swp l0 i n).length := by rw [HL.swp_length]; omega
    clear hn hh hi
    rw [Int.toNat_natCast, Int.toNat_natCast] at HSW
    go_enter Try.func36, Try.ntmps36
    go_wp2_with (first
      | ((with_reducible refine wpI0 HLen.out ?_ ?_ ?_); rfl; rfl; rintro v w1 ⟨rfl, hI1, hF1⟩; clear HLen)
      | ((with_reducible refine wpI2 (HSW.out _ hI1) ?_ ?_ ?_ ?_ ?_); rfl; rfl; rfl; rfl; rintro v w2 ⟨hI2, hF2⟩)
      | (go_at_call 44; (with_reducible refine (heap_down HH.out _ _ hI2 0 _ _ ?_ ?_ ?_ ?_ ?_).mono ?_); omega; omega; omega; simp only [Int.toNat_natCast]; exact HD.out; omega; simp only [Int.toNat_natCast]; rintro e w3 ⟨l', b, rfl, hI3, hF3, hp, hk, hb0, hb1⟩; have HK := Lib.hid (hk n (Nat.le_refl _)); clear hk; rcases down_cases b hb0 hb1 with ⟨rfl, rfl, hB0⟩ | ⟨rfl, hB1⟩)
      | (go_at_call 50; (with_reducible refine (heap_up HH.out _ _ hI3 n hls _ ?_ ?_ ?_).mono ?_); omega; omega; rw [Int.toNat_natCast]; exact HL.upInv_remove HN.out hi' HH.out.ord HHP.out hB0.out; rintro e w4 ⟨rfl, l2, hI4, hF4, hp4, hh4, hk4⟩; have HK4 := Lib.hid (hk4 n (Nat.le_refl _)); clear hk4)
      | ((with_reducible refine wpI0 (pop_fin HP.out HN.out hin hp4 hh4 HK4.out hI4 (HH.out.trans _ _ _ hF1 (HH.out.trans _ _ _ hF2 (HH.out.trans _ _ _ hF3 hF4)))) ?_ ?_ ?_); rfl; rfl; rintro v w5 hK5)
      | ((with_reducible refine wpI0 (pop_fin HP.out HN.out hin hp hB1 HK.out hI3 (HH.out.trans _ _ _ hF1 (HH.out.trans _ _ _ hF2 hF3))) ?_ ?_ ?_); rfl; rfl; rintro v w5 hK5))
    all_goals
      go_ret
      exact ⟨_, rfl, hK5⟩

end Go.Proofs.Ythdpajgnigilhaa

