/- net's Net: Cut. -/
import Derived.Test.YthdpajgnigilhaaNetY
import Derived.Maps.OwnSet
import Derived.DeepKeys4
namespace Go.Proofs.Ythdpajgnigilhaa
open Go.RowKit Go.Conc Go.Maps

theorem laidP : laidOutB Try.prog = true := by kernel_rfl
theorem rowP : (70 : TypeId) < Try.prog.types.size := of_decide_eq_true (by kernel_rfl)
theorem wideP : (match Try.prog.underlying 70 with | some (.array _ _) | some (.struct _) => true | _ => false) = true := by kernel_rfl
set_option maxRecDepth 100000 in
theorem lawP : Keyed Try.prog 70 := Keyed.of_law (deep_law_laid laidP (m := 2) (by omega) rowP (by kernel_rfl) wideP)
theorem zero_unit (w : World) : (zeroValue 67).run Try.prog w = .ok (.agg #[]) w := by kernel_rfl

abbrev DU := DataW Unit
abbrev dA (k : Lit) : DU := DataW.del (.map []) k
abbrev dB (k : Lit) : DU := DataW.put (dA k) k (.agg [])
abbrev dC (k : Lit) : DU := DataW.del (dB k) k
set_option maxRecDepth 100000 in
theorem keysP : ∃ k12 k13 : Lit, keyOf Try.prog 70 (.agg #[.int .i64 1, .int .i64 2]) = some k12 ∧ keyOf Try.prog 70 (.agg #[.int .i64 1, .int .i64 3]) = some k13 ∧
    Maps.has (dB k12) k12 = true ∧ Maps.has (dB k12) k13 = false ∧ Maps.has (dC k12) k12 = false ∧ Maps.has (dC k12) k13 = false :=
  ⟨.string (keyBytes [.int .i64 1, .int .i64 2]), .string (keyBytes [.int .i64 1, .int .i64 3]), by kernel_rfl, by kernel_rfl, by kernel_rfl, by kernel_rfl, by kernel_rfl, by kernel_rfl⟩

/-- Block b is a map that reads as D, whatever else the world is. -/
def CutD (b : Nat) (ob : Obj) (D : DU) : Prop := ∀ W, CutW (some b) ob W → ∃ n, n ≤ 10 ∧ W.ownsMap Try.prog 70 unitElem b n D
theorem cutD_of {w : World} {b n : Nat} {D : DU} (h : w.ownsMap Try.prog 70 unitElem b n D) (hn : n ≤ 10) : ∃ ob, CutD b ob D ∧ CutW (some b) ob w := by
  obtain ⟨es, clock, hb, r⟩ := h
  refine ⟨.map es clock, fun W hW => ⟨n, hn, es, clock, hW b rfl, r⟩, fun b' e => by cases e; exact hb⟩
/-- What a look-up tells. -/
theorem cutD_look {b : Nat} {ob : Obj} {D : DU} (h : CutD b ob D) {x y : Int} {k : Lit} (hk : keyOf Try.prog 70 (.agg #[.int .i64 (min x y), .int .i64 (max x y)]) = some k) (W : World) (hW : CutW (some b) ob W) : look (.map (some b)) x y (Maps.has D k) W := by
  obtain ⟨n, _, ho⟩ := h W hW
  obtain ⟨v, ps, hr, hv⟩ := ho.look_ok lawP Try.underlying48 (zero_unit W) unitElem_mk hk
  have : v = .agg #[] := (unitElem_inv hv).1
  subst this
  exact hr

theorem map_nil_nil (w : World) : (binOp .eql 48 (.map none) (.map none)).run Try.prog w = .ok (.bool true) w := by kernel_rfl
theorem map_some_nil (b : Nat) (w : World) : (binOp .eql 48 (.map (some b)) (.map none)).run Try.prog w = .ok (.bool false) w := by kernel_rfl

theorem fr_turned {w w' : World} {b : Nat} (h : w.mapTurned w' b) : Fr (fun k => k = b) w w' := Fr.of_grown h.grown (fun i _ e => by cases e; rfl)

theorem own_fr {w w' : World} {b n : Nat} {D : DU} (h : w.ownsMap Try.prog 70 unitElem b n D) {T : Nat → Prop} (hF : Fr T w w') (hT : ¬ T b) : w'.ownsMap Try.prog 70 unitElem b n D := by
  obtain ⟨es, clock, hb, r⟩ := h
  exact ⟨es, clock, (hF.block b (Array.getElem?_eq_some_iff.1 hb).1 hT).trans hb, r⟩

set_option maxHeartbeats 2000000 in
set_option maxRecDepth 100000 in
theorem cut_on (nb : Nat) (w : World) (k12 : Lit) (hk : keyOf Try.prog 70 (.agg #[.int .i64 1, .int .i64 2]) = some k12) (hc : w.cell? ⟨nb, 2, none⟩ = some (.map none)) (hf : w.frozen? ⟨nb, 2, none⟩ = false) :
    Calls Try.prog 14 #[.pointer (some ⟨nb, 0, none⟩), .int .i64 2, .int .i64 1, .bool true] w fun e w' => e = .returned (.tuple #[]) ∧ ∃ n, n ≤ 10 ∧ w'.ownsMap Try.prog 70 unitElem w.heap.size n (dB k12) ∧
      Fr (fun k => k = w.heap.size) (w.setCell ⟨nb, 2, none⟩ (.map (some w.heap.size))) w' := by
  have hq := map_nil_nil
  have hmm := @run_makeMap Try.prog
  have hlt := cell_lt hc
  go_enter Try.func14, Try.ntmps14
  go_wp2
  have hsz0 : (w.setCell ⟨nb, 2, none⟩ (.map (some w.heap.size))).heap.size = w.heap.size := by simp [World.setCell]
  have own1 : ((w.setCell ⟨nb, 2, none⟩ (.map (some w.heap.size))).alloc (.map #[] 0)).ownsMap Try.prog 70 (unitElem (H := Unit)) w.heap.size 0 (.map []) := by
    have := World.ownsMap_made (H := Unit) (w.setCell ⟨nb, 2, none⟩ (.map (some w.heap.size))) Try.prog 70 unitElem
    rw [hsz0] at this
    exact this
  have c1 : ((w.setCell ⟨nb, 2, none⟩ (.map (some w.heap.size))).alloc (.map #[] 0)).cell? ⟨nb, 2, none⟩ = some (.map (some w.heap.size)) := by
    rw [World.cell?_alloc_lt _ _ _ (by rw [hsz0]; exact hlt)]
    exact cell_set_same _ _ _ _ hc
  have hF1 : Fr (fun k => k = w.heap.size) (w.setCell ⟨nb, 2, none⟩ (.map (some w.heap.size))) ((w.setCell ⟨nb, 2, none⟩ (.map (some w.heap.size))).alloc (.map #[] 0)) := (Fr.refl _ _).alloc _
  have hz1 : ((w.setCell ⟨nb, 2, none⟩ (.map (some w.heap.size))).alloc (.map #[] 0)).heap.size = w.heap.size + 1 := by rw [World.size_alloc, hsz0]
  generalize hW0 : w.setCell ⟨nb, 2, none⟩ (.map (some w.heap.size)) = W0 at *
  have HW0 := Lib.hid hW0
  clear hW0
  generalize W0.alloc (.map #[] 0) = W1 at *
  have hb1 : w.heap.size < W1.heap.size := by omega
  have hn1 : nb < W1.heap.size := by omega
  have HF1 := Lib.hid hF1
  have hne : ¬ (fun k => k = w.heap.size) nb := by show ¬ nb = w.heap.size; omega
  have HO1 := Lib.hid own1
  have hk' : keyOf Try.prog 70 (.agg #[.int .i64 (min 2 1), .int .i64 (max 2 1)]) = some k12 := by rw [show min (2 : Int) 1 = 1 from rfl, show max (2 : Int) 1 = 2 from rfl]; exact hk
  have HK := Lib.hid hk'
  clear hc hf hq hmm hsz0 hz1 hF1 own1 hk hk'
  go_region_held3 (fun w' => w'.cell? ⟨nb, 2, none⟩ = some (.map (some w.heap.size)))
    (first | go_keep | exact (hF6.cell (p := ⟨nb, 2, none⟩) hn1 hne).trans c1 | exact (hb5.cell (p := ⟨nb, 2, none⟩) hn1).trans (by assumption))
    (first
      | (go_at_call 31; refine (net_ends 2 1 _).mono ?_; rintro e w5 ⟨rfl, hb5⟩; have ho5 := own_fr HO1.out (Fr.trans ((Fr.refl (fun _ => False) W1).drew) (Fr.of_all (S := fun _ => False) hb5) (fun _ h _ => h)) (fun h => h); obtain ⟨w6, hdel, ho6, ht6⟩ := ho5.drop lawP Try.underlying48 HK.out 0; have hF6 : Fr (fun k => k = w.heap.size) W1 w6 := Fr.trans (Fr.trans ((Fr.refl _ W1).drew) (Fr.of_all (S := fun k => k = w.heap.size) hb5) (fun _ h _ => h)) (fr_turned ht6) (fun _ h _ => h)))
  have c6 : w6.cell? ⟨nb, 2, none⟩ = some (.map (some w.heap.size)) := (hF6.cell (p := ⟨nb, 2, none⟩) hn1 hne).trans c1
  have HF6 := Lib.hid (Fr.trans HF1.out hF6 (fun _ h _ => h))
  have HO6 := Lib.hid ho6
  have hz6 := hF6.size
  have hb6 : w.heap.size < w6.heap.size := by omega
  have hn6 : nb < w6.heap.size := by omega
  clear hF6 ho6 ht6 hdel ho5 hb5 hz6 c1 HF1 HO1
  go_wp2
  go_region_held3 (fun w' => w'.cell? ⟨nb, 2, none⟩ = some (.map (some w.heap.size)))
    (first | go_keep | exact (hF8.cell (p := ⟨nb, 2, none⟩) hn6 hne).trans c6 | exact (hb7.cell (p := ⟨nb, 2, none⟩) hn6).trans (by assumption))
    (first
      | (go_at_call 31; refine (net_ends 2 1 _).mono ?_; rintro e w7 ⟨rfl, hb7⟩; have ho7 := own_fr HO6.out (Fr.trans ((Fr.refl (fun _ => False) w6).drew) (Fr.of_all (S := fun _ => False) hb7) (fun _ h _ => h)) (fun h => h); obtain ⟨w8, hput, ho8, ht8⟩ := ho7.store lawP Try.underlying48 (by unfold maxLen; omega) HK.out unitElem_mk; have hF8 : Fr (fun k => k = w.heap.size) w6 w8 := Fr.trans (Fr.trans ((Fr.refl _ w6).drew) (Fr.of_all (S := fun k => k = w.heap.size) hb7) (fun _ h _ => h)) (fr_turned ht8) (fun _ h _ => h)))
  go_wp2
  go_end0
  exact ⟨rfl, _, by omega, ho8, by rw [HW0.out]; exact Fr.trans HF6.out hF8 (fun _ h _ => h)⟩

set_option maxHeartbeats 2000000 in
set_option maxRecDepth 100000 in
theorem cut_off (nb mb n : Nat) (w : World) (k12 : Lit) (D : DU) (hk : keyOf Try.prog 70 (.agg #[.int .i64 1, .int .i64 2]) = some k12) (hc : w.cell? ⟨nb, 2, none⟩ = some (.map (some mb))) (ho : w.ownsMap Try.prog 70 unitElem mb n D) (hne : nb ≠ mb) :
    Calls Try.prog 14 #[.pointer (some ⟨nb, 0, none⟩), .int .i64 1, .int .i64 2, .bool false] w fun e w' => e = .returned (.tuple #[]) ∧ w'.ownsMap Try.prog 70 unitElem mb n (D.del k12) ∧ Fr (fun k => k = mb) w w' := by
  have hq := map_some_nil mb
  have hn1 : nb < w.heap.size := cell_lt hc
  have hk' : keyOf Try.prog 70 (.agg #[.int .i64 (min 1 2), .int .i64 (max 1 2)]) = some k12 := by rw [show min (1 : Int) 2 = 1 from rfl, show max (1 : Int) 2 = 2 from rfl]; exact hk
  have HK := Lib.hid hk'
  have HO1 := Lib.hid ho
  have hne' : ¬ (fun k => k = mb) nb := hne
  clear ho hk hk'
  go_enter Try.func14, Try.ntmps14
  go_wp2
  go_region_held3 (fun w' => w'.cell? ⟨nb, 2, none⟩ = some (.map (some mb)))
    (first | go_keep | exact (hF6.cell (p := ⟨nb, 2, none⟩) hn1 hne').trans hc | exact (hb5.cell (p := ⟨nb, 2, none⟩) hn1).trans (by assumption))
    (first
      | (go_at_call 31; refine (net_ends 1 2 _).mono ?_; rintro e w5 ⟨rfl, hb5⟩; have ho5 := own_fr HO1.out (Fr.trans ((Fr.refl (fun _ => False) w).drew) (Fr.of_all (S := fun _ => False) hb5) (fun _ h _ => h)) (fun h => h); obtain ⟨w6, hdel, ho6, ht6⟩ := ho5.drop lawP Try.underlying48 HK.out 0; have hF6 : Fr (fun k => k = mb) w w6 := Fr.trans (Fr.trans ((Fr.refl _ w).drew) (Fr.of_all (S := fun k => k = mb) hb5) (fun _ h _ => h)) (fr_turned ht6) (fun _ h _ => h)))
  go_wp2
  go_end0
  exact ⟨rfl, ho6, hF6⟩
end Go.Proofs.Ythdpajgnigilhaa
