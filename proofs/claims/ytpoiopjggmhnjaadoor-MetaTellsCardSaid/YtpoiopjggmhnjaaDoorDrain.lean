/- dev: drain takes all that waits; put lets a write wait. -/
import Derived.Test.YtpoiopjggmhnjaaDoorSel
import Derived.Test.YtpoiopjggmhnjaaDoorFr
import Derived.Deep.AppendLies
import Derived.Deep.RegionLaw
import Derived.BigRegion
import Derived.Deep.QuietTactic
import Derived.BigQuiet
namespace Go.Proofs.YtpoiopjggmhnjaaDoor
open Go.RowKit Go.Conc

abbrev Wr := Int × ByteArray
def wcells (x : Wr) : List Value := [.int .i64 x.1, .string x.2]
theorem wcells_length (x : Wr) : (wcells x).length = 2 := rfl
def encW (x : Wr) : Value := .agg #[.int .i64 x.1, .string x.2]
def chanOf (cap s r : Nat) (ws : List Wr) : Obj := .chan cap (ws.map encW).toArray false s r false
def chanLen (w : World) (c : Nat) : Nat := match w.heap[c]? with | some (.chan _ buf _ _ _ _) => buf.size | _ => 0

theorem zero_write : ∀ w, (zeroValue 74).run Tryd.prog w = .ok (.agg #[.int .i64 0, .string ByteArray.empty]) w := Tryd.zeroValue74

set_option maxHeartbeats 1000000 in
set_option maxRecDepth 100000 in
theorem drain_nil (db : Nat) (w : World) (hc : w.cell? ⟨db, 6, none⟩ = some (.chan none)) :
    Calls Tryd.prog 43 #[.pointer (some ⟨db, 0, none⟩)] w fun e w' => e = .returned (.slice none 0 0) ∧ w' = w := by
  refine calls_of_wpN Tryd.func43 rfl (by rintro _ ⟨h, _⟩; cases h) ?_
  simp only [Tryd.ntmps43, List.size_toArray, List.length_cons, List.length_nil, Nat.reduceAdd, Nat.reduceSub, Array.replicate_succ, Array.replicate_zero, List.push_toArray, List.append_toArray, List.nil_append, List.cons_append]
  refine wpN_seq (wpN_of ?_)
  go_wp2
  refine wpN_seq (wpN_of ?_)
  go_wp2
  refine wpN_block ?_
  refine wpN_loop (fun a wr => wr = w ∧ a = { tmps := #[.pointer (some ⟨db, 0, none⟩), undef, .slice none 0 0, .slice none 0 0, undef, undef, undef, undef, undef, undef, undef, undef, undef, undef, undef, undef, undef, undef], defers := [] }) (fun _ _ => 0) ⟨rfl, rfl⟩ ?_
  rintro a wr ⟨rfl, rfl⟩
  refine wpN_block ?_
  refine wpN_seq (wpN_of ?_)
  go_wp2
  refine wpN_seq (wpN_sel_recv_nil rfl zero_write ?_)
  go_wp2
  refine wpN_block ?_
  refine wpN_cond (t := false) rfl ?_
  refine wpN_of ?_
  go_wp2
  go_ret
  exact ⟨rfl, rfl⟩

theorem setChan_other (w : World) (c c' cap : Nat) (buf : Array Value) (closed : Bool) (s r : Nat) (tm : Bool) (h : c ≠ c') : (w.setChan c cap buf closed s r tm).heap[c']? = w.heap[c']? := by
  simp [World.setChan, Array.getElem?_setIfInBounds_ne h]

theorem Fr.setChan {S : Nat → Prop} {w w1 : World} (h : Fr S w w1) {c : Nat} (hc : c < w.heap.size → S c) (cap : Nat) (buf : Array Value) (cl : Bool) (s r : Nat) (tm : Bool) : Fr S w (w1.setChan c cap buf cl s r tm) :=
  ⟨h.os, h.tape, h.output, by rw [size_setChan]; exact h.size, fun i hi hs => (setChan_other w1 c i cap buf cl s r tm (by rintro rfl; exact hs (hc hi))).trans (h.block i hi hs)⟩

theorem info_write : (Tryd.prog.info? 74).map (fun i => (i.zero, i.size, i.bytes)) = some (some (.agg #[.int .i64 0, .string ByteArray.empty]), 2, 24) := by kernel_rfl

theorem extract_tail (x : Wr) (l : List Wr) : ((x :: l).map encW).toArray.extract 1 ((x :: l).map encW).toArray.size = (l.map encW).toArray := by
  simp [List.take_of_length_le]

/-- Between two rounds of drain. -/
def DrainRel (w : World) (c cap s r : Nat) (ws dn rest : List Wr) (ov : Value) (wr : World) : Prop :=
  ws = dn ++ rest ∧ wr.ownsRow w.heap.size 74 2 ov dn.length (rowOf wcells dn) ∧ wr.heap[c]? = some (chanOf cap s (r + dn.length) rest) ∧ Fr (fun k => k = c) w wr

theorem chanLen_of {w : World} {c cap s r : Nat} {ws : List Wr} (h : w.heap[c]? = some (chanOf cap s r ws)) : chanLen w c = ws.length := by
  unfold chanLen
  rw [h]
  simp [chanOf]

set_option maxHeartbeats 1000000 in
set_option maxRecDepth 100000 in
theorem drain_some (db c cap s r : Nat) (ws : List Wr) (w : World) (hc : w.cell? ⟨db, 6, none⟩ = some (.chan (some c))) (hch : w.heap[c]? = some (chanOf cap s r ws)) (hn : ws.length ≤ 100000) :
    Calls Tryd.prog 43 #[.pointer (some ⟨db, 0, none⟩)] w fun e w' => ∃ v, e = .returned v ∧ DrainRel w c cap s r ws ws [] v w' := by
  obtain ⟨i0, hi0, hz0, hz1, hz2⟩ := info_parts info_write
  have hcl : c < w.heap.size := (Array.getElem?_eq_some_iff.1 hch).1
  have hdl := cell_lt hc
  have hne : db ≠ c := by
    rintro rfl
    unfold World.cell? at hc
    simp only at hc
    rw [hch] at hc
    simp [chanOf] at hc
  have HCH := Lib.hid hch
  clear hch
  refine calls_of_wpN Tryd.func43 rfl (by rintro _ ⟨_, h, _⟩; cases h) ?_
  simp only [Tryd.ntmps43, List.size_toArray, List.length_cons, List.length_nil, Nat.reduceAdd, Nat.reduceSub, Array.replicate_succ, Array.replicate_zero, List.push_toArray, List.append_toArray, List.nil_append, List.cons_append]
  refine wpN_seq (wpN_of ?_)
  go_wp2
  refine wpN_seq (wpN_of ?_)
  go_wp2
  refine wpN_block ?_
  refine wpN_loop (fun a wr => ∃ ov u4 u5 u6 u7 u8 u9 u10 u11 u12 u13 u14 u15 u16 u17 dn rest, a = { tmps := #[.pointer (some ⟨db, 0, none⟩), undef, .slice none 0 0, ov, u4, u5, u6, u7, u8, u9, u10, u11, u12, u13, u14, u15, u16, u17], defers := [] } ∧ DrainRel w c cap s r ws dn rest ov wr) (fun _ wr => chanLen wr c)
    ⟨.slice none 0 0, undef, undef, undef, undef, undef, undef, undef, undef, undef, undef, undef, undef, undef, undef, [], ws, rfl, rfl, World.ownsRow_nil _ _ _ _, HCH.out, Fr.refl _ _⟩ ?_
  rintro a wr ⟨ov, u4, u5, u6, u7, u8, u9, u10, u11, u12, u13, u14, u15, u16, u17, dn, rest, rfl, hrel⟩
  have hws := hrel.1
  have ho := hrel.2.1
  have hch := hrel.2.2.1
  have hF := hrel.2.2.2
  clear hrel
  have hc' : wr.cell? ⟨db, 6, none⟩ = some (.chan (some c)) := (hF.cell (p := ⟨db, 6, none⟩) hdl hne).trans hc
  have HO := Lib.hid ho
  have HCR := Lib.hid hch
  have HF := Lib.hid hF
  have HW := Lib.hid hws
  have hsz := hF.size
  clear ho hch hF hws
  refine wpN_block ?_
  refine wpN_seq (wpN_of ?_)
  go_wp2
  cases rest with
  | nil =>
    refine wpN_seq (wpN_sel_recv_default rfl zero_write HCR.out ?_)
    go_wp2
    refine wpN_block ?_
    refine wpN_cond (t := false) rfl ?_
    refine wpN_of ?_
    go_wp2
    go_ret
    have e : ws = dn := by have := HW.out; simpa using this
    subst e
    exact ⟨_, rfl, by simp, HO.out, HCR.out, HF.out⟩
  | cons x rest =>
    refine wpN_seq (wpN_sel_recv rfl zero_write HCR.out (by simp) ?_)
    rw [extract_tail]
    have hg0 : (((x :: rest).map encW).toArray).getD 0 undef = .agg #[.int .i64 x.1, .string x.2] := by simp [encW]
    rw [hg0]
    clear hg0
    obtain ⟨W1, hW1⟩ : ∃ W1, wr.setChan c cap (rest.map encW).toArray false s (r + dn.length + 1) false = W1 := ⟨_, rfl⟩
    rw [hW1]
    have hF1 : Fr (fun k => k = c) wr W1 := by rw [← hW1]; exact (Fr.refl (fun k => k = c) wr).setChan (fun _ => rfl) _ _ _ _ _ _
    have hsz1 : wr.heap.size = W1.heap.size := by rw [← hW1, size_setChan]
    have hch1 : W1.heap[c]? = some (chanOf cap s (r + dn.length + 1) rest) := by rw [← hW1]; exact heap_setChan _ _ _ _ _ _ _ _ (by omega)
    have ho1 : W1.ownsRow w.heap.size 74 2 ov dn.length (rowOf wcells dn) := hF1.owns HO.out (fun g hg e => by have := (HO.out.lt g hg).1; omega)
    have HF1 := Lib.hid hF1
    have HC1 := Lib.hid hch1
    have HO1 := Lib.hid ho1
    clear hW1 hF1 hch1 ho1
    go_wp2
    refine wpN_block ?_
    refine wpN_cond (t := true) rfl ?_
    refine wpN_of ?_
    obtain ⟨x1, x2⟩ := x
    have hle : (dn ++ (x1, x2) :: rest).length ≤ 100000 := by rw [← HW.out]; exact hn
    rw [List.length_append, List.length_cons] at hle
    go_wp2_with (at_builtin; refine wpList_append_own _ rfl _ _ 79 rfl w.heap.size 74 i0 _ 2 24 Tryd.underlying79 hi0 hz0 hz1 hz2 rfl (by omega) ov dn.length (rowOf wcells dn) rfl ?own ⟨W1.heap.size + 1, 0, none⟩ 1 1 (wcells (x1, x2)) rfl rfl ?cells ?one ?len ?bytes ?base ?_; (case own => exact (HO1.out.alloc _).alloc _); (case cells => intro j u hu; have e := new_cells (W1.alloc (.cells #[.int .i64 x1, .string x2] 74)) [.int .i64 x1, .string x2] 74 j u hu; rw [World.size_alloc] at e; exact e); (case one => intro u hu; simp [wcells] at hu; rcases hu with rfl | rfl <;> rfl); (case len => unfold maxLen; omega); (case bytes => omega); (case base => simp; omega); intro v2 w2 hown hgr _; have HOW := Lib.hid hown; have HGR := Lib.hid hgr; clear hown hgr)
    have hF2 : Fr (fun k => w.heap.size ≤ k) W1 w2 := Fr.trans (((Fr.refl _ W1).alloc _).alloc _) (Fr.of_grown HGR.out (fun i _ hi => (HO1.out.lt i hi).1)) (fun i hi _ => hi)
    have hch2 : w2.heap[c]? = some (chanOf cap s (r + dn.length + 1) rest) := (hF2.block c (by omega) (by show ¬ w.heap.size ≤ c; omega)).trans HC1.out
    have hFin : Fr (fun k => k = c) w w2 := Fr.trans (Fr.trans HF.out HF1.out (fun i hi _ => hi)) hF2 (fun i hi hlt => by
      have : w.heap.size ≤ i := hi
      omega)
    refine ⟨⟨v2, _, _, _, _, _, _, _, _, _, _, _, _, _, _, dn ++ [(x1, x2)], rest, rfl, ?_, ?_, ?_, hFin⟩, ?_⟩
    · rw [HW.out]; simp
    · rw [rowOf_append, rowOf_one, List.length_append]; exact HOW.out
    · rw [List.length_append]; exact hch2
    · rw [chanLen_of hch2, chanLen_of HCR.out]; simp
end Go.Proofs.YtpoiopjggmhnjaaDoor
