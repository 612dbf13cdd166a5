/- Merged texts: Rf35 Rg1 Rg2 Rg3 Rg4. -/
import Derived.Test.YtaodldagmmephaaGreatB3
import Derived.Test.YtaodldagmmephaaGreatB2
import Derived.Maps.RangeWalk
/- raft: nil and zero cores: Propose, Ask, Restore, Step. -/
namespace Go.Proofs.YtaodldagmmephaaGreat
open Go.RowKit Go.Maps
namespace RF
theorem results_tct {fn : Func} {u p v : Tmp} {t : TypeId} (h : fn.results = #[.tmp u, .cell p t, .tmp v]) (tmps : Array Value) (P : Program) (W : World) (a : Addr) (x : Value) (ha : tmps.getD p undef = .pointer (some a))
    (hx : (loadVar t a).run P W = .ok x W) : (results fn tmps).run P W = .ok (.tuple #[tmps.getD u undef, x, tmps.getD v undef]) W := by
  have ha' : tmps[p]?.getD undef = .pointer (some a) := by simpa using ha
  simp only [results, h]
  simp [ha', hx, asAddr, Result.andThen]
theorem results_ttct {fn : Func} {u y p v : Tmp} {t : TypeId} (h : fn.results = #[.tmp u, .tmp y, .cell p t, .tmp v]) (tmps : Array Value) (P : Program) (W : World) (a : Addr) (x : Value) (ha : tmps.getD p undef = .pointer (some a))
    (hx : (loadVar t a).run P W = .ok x W) : (results fn tmps).run P W = .ok (.tuple #[tmps.getD u undef, tmps.getD y undef, x, tmps.getD v undef]) W := by
  have ha' : tmps[p]?.getD undef = .pointer (some a) := by simpa using ha
  simp only [results, h]
  simp [ha', hx, asAddr, Result.andThen]
set_option maxRecDepth 100000 in
theorem propose_void (v : Value) (kd : Int) (da : ByteArray) (w : World) (h : Void v w) : Calls Tryz.prog 20 #[v, .int .i64 kd, .string da] w fun e w' => e = .returned (.tuple #[.int .i64 0, outZ, .int .i64 1]) ∧ Below w.heap.size w w' := by
  have HB1 := Lib.hid ((Below.refl _ w).alloc (Nat.le_refl _) (.cells #[.slice none 0 0, .bool false, .int .i64 0, .slice none 0 0] 37))
  have HN := Lib.hid (none_void v _ (h.below HB1.out))
  unfold outZ
  clear h
  go_enter Tryz.func20, Tryz.ntmps20
  go_wp2_with (with_reducible refine HN.out.mono ?_; rintro e w2 ⟨rfl, rfl⟩)
  refine bodyPost_ret (results_tct rfl _ _ _ ⟨w.heap.size, 0, none⟩ (.agg #[.slice none 0 0, .bool false, .int .i64 0, .slice none 0 0]) rfl (by go_simp)) rfl ?_
  exact ⟨rfl, HB1.out⟩
set_option maxRecDepth 100000 in
theorem ask_void (v : Value) (w : World) (h : Void v w) : Calls Tryz.prog 32 #[v] w fun e w' => e = .returned (.tuple #[.int .i64 0, .int .i64 0, outZ, .int .i64 1]) ∧ Below w.heap.size w w' := by
  have HB1 := Lib.hid ((Below.refl _ w).alloc (Nat.le_refl _) (.cells #[.slice none 0 0, .bool false, .int .i64 0, .slice none 0 0] 37))
  have HN := Lib.hid (none_void v _ (h.below HB1.out))
  unfold outZ
  clear h
  go_enter Tryz.func32, Tryz.ntmps32
  go_wp2_with (with_reducible refine HN.out.mono ?_; rintro e w2 ⟨rfl, rfl⟩)
  refine bodyPost_ret (results_ttct rfl _ _ _ ⟨w.heap.size, 0, none⟩ (.agg #[.slice none 0 0, .bool false, .int .i64 0, .slice none 0 0]) rfl (by go_simp)) rfl ?_
  exact ⟨rfl, HB1.out⟩
set_option maxHeartbeats 2000000 in
set_option maxRecDepth 100000 in
theorem restore_void (v : Value) (ix tm : Int) (pm : Option Addr) (nm cm : Nat) (w : World) (h : Void v w) : Calls Tryz.prog 15 #[v, .agg #[.int .i64 ix, .int .i64 tm, .slice pm nm cm]] w fun e w' => e = .returned (.tuple #[.bool false, outZ]) ∧ Below w.heap.size w w' := by
  have hb0 : Below w.heap.size w (w.alloc (.cells #[.int .i64 ix, .int .i64 tm, .slice pm nm cm] 34)) := (Below.refl _ w).alloc (Nat.le_refl _) _
  have hb1 : Below (w.alloc (.cells #[.int .i64 ix, .int .i64 tm, .slice pm nm cm] 34)).heap.size (w.alloc (.cells #[.int .i64 ix, .int .i64 tm, .slice pm nm cm] 34)) ((w.alloc (.cells #[.int .i64 ix, .int .i64 tm, .slice pm nm cm] 34)).alloc (.cells #[.slice none 0 0, .bool false, .int .i64 0, .slice none 0 0] 37)) := (Below.refl _ _).alloc (Nat.le_refl _) _
  have X1 := CBox.fresh (w.alloc (.cells #[.int .i64 ix, .int .i64 tm, .slice pm nm cm] 34)) [.slice none 0 0, .bool false, .int .i64 0, .slice none 0 0] 37
  rw [World.size_alloc] at X1
  have HB1 := Lib.hid (hb0.trans (hb1.mono hb0.size))
  have HV := Lib.hid (h.below HB1.out)
  unfold outZ
  clear h hb0 hb1
  go_enter Tryz.func15, Tryz.ntmps15
  go_upto_region 1 with fail
  dsimp only [List.toArray] at X1
  generalize (w.alloc (.cells #[.int .i64 ix, .int .i64 tm, .slice pm nm cm] 34)).alloc (.cells #[.slice none 0 0, .bool false, .int .i64 0, .slice none 0 0] 37) = W1 at *
  have HN : Hid (∀ q : Later W1, Calls Tryz.prog 46 #[v] q.1 fun e w' => e = .returned (.bool true) ∧ w' = q.1) := Lib.hid (fun q => none_void v q.1 (HV.out.below q.2))
  refine wp_region_later (by kernel_rfl) (by kernel_rfl) ?_
  repeat (go_big_quiet_step ((go_at_call 46; exact Calls.later_same (HN.out _))))
  refine wpQuiet_nil ?_
  intro W2 hw'
  obtain ⟨⟨wq, hq⟩, hw''⟩ := hw'
  have hwe : W2 = wq := hw''
  clear hw''
  subst hwe
  have HX2 := Lib.hid (X1.below hq)
  have HB2 := Lib.hid (HB1.out.trans (hq.mono HB1.out.size))
  clear X1 hq HN
  have t0 := HX2.out.1 0 _ rfl
  have t1 := HX2.out.1 1 _ rfl
  have t2 := HX2.out.1 2 _ rfl
  have t3 := HX2.out.1 3 _ rfl
  have u0 := HX2.out.2.1 0 (by show 0 < 4; omega)
  have u1 := HX2.out.2.1 1 (by show 1 < 4; omega)
  have u2 := HX2.out.2.1 2 (by show 2 < 4; omega)
  have u3 := HX2.out.2.1 3 (by show 3 < 4; omega)
  go_wp2_with fail
  refine bodyPost_ret (results_2c rfl _ _ _ ⟨w.heap.size + 1, 0, none⟩ (.agg #[.slice none 0 0, .bool false, .int .i64 0, .slice none 0 0]) rfl (by go_simp)) rfl ?_
  exact ⟨rfl, (((HB2.out.setCell (p := ⟨w.heap.size + 1, 0, none⟩) (Nat.le_succ _) _).setCell (p := ⟨w.heap.size + 1, 1, none⟩) (Nat.le_succ _) _).setCell (p := ⟨w.heap.size + 1, 2, none⟩) (Nat.le_succ _) _).setCell (p := ⟨w.heap.size + 1, 3, none⟩) (Nat.le_succ _) _⟩
set_option maxHeartbeats 2000000 in
set_option maxRecDepth 100000 in
theorem step_void (v : Value) (m : Mg) (x : Mx) (w : World) (h : Void v w) : Calls Tryz.prog 18 #[v, mxval m x] w fun e w' => e = .returned outZ ∧ Below w.heap.size w w' := by
  have hb0 : Below w.heap.size w (w.alloc (.cells #[.int .i64 m.kd, .int .i64 m.fr, .int .i64 m.tq, .int .i64 m.tm, .int .i64 m.ix, .int .i64 m.lt, .int .i64 m.cm, .int .i64 m.rd, .bool m.ok, .bool x.dn, .slice x.pe m.en.length x.ce, .slice x.pm x.nm x.cm, .int .i64 x.of, .slice x.pp x.np x.cp] 48)) := (Below.refl _ w).alloc (Nat.le_refl _) _
  have hb1 : Below (w.alloc (.cells #[.int .i64 m.kd, .int .i64 m.fr, .int .i64 m.tq, .int .i64 m.tm, .int .i64 m.ix, .int .i64 m.lt, .int .i64 m.cm, .int .i64 m.rd, .bool m.ok, .bool x.dn, .slice x.pe m.en.length x.ce, .slice x.pm x.nm x.cm, .int .i64 x.of, .slice x.pp x.np x.cp] 48)).heap.size (w.alloc (.cells #[.int .i64 m.kd, .int .i64 m.fr, .int .i64 m.tq, .int .i64 m.tm, .int .i64 m.ix, .int .i64 m.lt, .int .i64 m.cm, .int .i64 m.rd, .bool m.ok, .bool x.dn, .slice x.pe m.en.length x.ce, .slice x.pm x.nm x.cm, .int .i64 x.of, .slice x.pp x.np x.cp] 48)) ((w.alloc (.cells #[.int .i64 m.kd, .int .i64 m.fr, .int .i64 m.tq, .int .i64 m.tm, .int .i64 m.ix, .int .i64 m.lt, .int .i64 m.cm, .int .i64 m.rd, .bool m.ok, .bool x.dn, .slice x.pe m.en.length x.ce, .slice x.pm x.nm x.cm, .int .i64 x.of, .slice x.pp x.np x.cp] 48)).alloc (.cells #[.slice none 0 0, .bool false, .int .i64 0, .slice none 0 0] 37)) := (Below.refl _ _).alloc (Nat.le_refl _) _
  have X1 := CBox.fresh (w.alloc (.cells #[.int .i64 m.kd, .int .i64 m.fr, .int .i64 m.tq, .int .i64 m.tm, .int .i64 m.ix, .int .i64 m.lt, .int .i64 m.cm, .int .i64 m.rd, .bool m.ok, .bool x.dn, .slice x.pe m.en.length x.ce, .slice x.pm x.nm x.cm, .int .i64 x.of, .slice x.pp x.np x.cp] 48)) [.slice none 0 0, .bool false, .int .i64 0, .slice none 0 0] 37
  rw [World.size_alloc] at X1
  have HB1 := Lib.hid (hb0.trans (hb1.mono hb0.size))
  have HV := Lib.hid (h.below HB1.out)
  unfold outZ mxval
  clear h hb0 hb1
  go_enter Tryz.func18, Tryz.ntmps18
  go_upto_region 1 with fail
  dsimp only [List.toArray] at X1
  generalize (w.alloc (.cells #[.int .i64 m.kd, .int .i64 m.fr, .int .i64 m.tq, .int .i64 m.tm, .int .i64 m.ix, .int .i64 m.lt, .int .i64 m.cm, .int .i64 m.rd, .bool m.ok, .bool x.dn, .slice x.pe m.en.length x.ce, .slice x.pm x.nm x.cm, .int .i64 x.of, .slice x.pp x.np x.cp] 48)).alloc (.cells #[.slice none 0 0, .bool false, .int .i64 0, .slice none 0 0] 37) = W1 at *
  have HN : Hid (∀ q : Later W1, Calls Tryz.prog 46 #[v] q.1 fun e w' => e = .returned (.bool true) ∧ w' = q.1) := Lib.hid (fun q => none_void v q.1 (HV.out.below q.2))
  refine wp_region_later (by kernel_rfl) (by kernel_rfl) ?_
  repeat (go_big_quiet_step ((go_at_call 46; exact Calls.later_same (HN.out _))))
  refine wpQuiet_nil ?_
  intro W2 hw'
  obtain ⟨⟨wq, hq⟩, hw''⟩ := hw'
  have hwe : W2 = wq := hw''
  clear hw''
  subst hwe
  have HX2 := Lib.hid (X1.below hq)
  have HB2 := Lib.hid (HB1.out.trans (hq.mono HB1.out.size))
  clear X1 hq HN
  have t0 := HX2.out.1 0 _ rfl
  have t1 := HX2.out.1 1 _ rfl
  have t2 := HX2.out.1 2 _ rfl
  have t3 := HX2.out.1 3 _ rfl
  have u0 := HX2.out.2.1 0 (by show 0 < 4; omega)
  have u1 := HX2.out.2.1 1 (by show 1 < 4; omega)
  have u2 := HX2.out.2.1 2 (by show 2 < 4; omega)
  have u3 := HX2.out.2.1 3 (by show 3 < 4; omega)
  go_wp2_with fail
  refine bodyPost_ret (results_cell1 rfl _ _ _ ⟨w.heap.size + 1, 0, none⟩ (.agg #[.slice none 0 0, .bool false, .int .i64 0, .slice none 0 0]) rfl (by go_simp)) rfl ?_
  exact ⟨rfl, (((HB2.out.setCell (p := ⟨w.heap.size + 1, 0, none⟩) (Nat.le_succ _) _).setCell (p := ⟨w.heap.size + 1, 1, none⟩) (Nat.le_succ _) _).setCell (p := ⟨w.heap.size + 1, 2, none⟩) (Nat.le_succ _) _).setCell (p := ⟨w.heap.size + 1, 3, none⟩) (Nat.le_succ _) _⟩
end RF
end Go.Proofs.YtaodldagmmephaaGreat

/- raft: the map of the peers, as a loop goes over it; regard, plain. -/
namespace Go.Proofs.YtaodldagmmephaaGreat
open Go.RowKit Go.Maps
namespace RF
section
variable {rb base : Nat} {s : RS} {h : Hd} {w : World} {M : Int} {N : Nat}
/-- Who is still to come is there. -/
theorem ranges_key {b r n cnt : Nat} {D : DP} {left : Lit → Bool} {A : List (Int × Value)} (h : w.ranges Tryz.prog 3 heldR b r n D left cnt) (hR : SetR (A.map (·.1)) D) {x : Int} (hl : left (.int .i64 x) = true) : ∃ v, (x, v) ∈ A := by
  obtain ⟨es, clock, since, seen, c0, hb, F, hs, rfl, hr, hold, hc, hl1, hl2, hsc, hsk⟩ := h
  obtain ⟨e, he, hk⟩ := hl2 _ hl
  obtain ⟨y, hy⟩ := F.reads e he
  have h1 : has (DataW.map ((es.toList.map (Go.WideElems.rg Tryz.prog 3 heldR)).foldr DataW.insert [])) (.int .i64 x) = true := by
    rw [← hk]
    exact List.any_eq_true.2 ⟨_, mem_sorted.2 (List.mem_map.2 ⟨e, he, rfl⟩), WideAt.sameKey_self (by rw [Go.WideElems.rg_of hy]; exact keyedI.key (Go.WideElems.rd_key hy))⟩
  rw [hR.mem x] at h1
  obtain ⟨p, hp, e2⟩ := List.mem_map.1 (of_decide_eq_true h1)
  exact ⟨p.2, by rw [← e2]; exact hp⟩
/-- A map has room for its keys. -/
theorem own_tight {b n : Nat} {D : DP} {L : List Int} (h : w.ownsMap Tryz.prog 3 heldR b n D) (hR : SetR L D) : w.ownsMap Tryz.prog 3 heldR b L.length D := by
  obtain ⟨es, clock, hb, F, hs, hD⟩ := h
  refine ⟨es, clock, hb, F, ?_, hD⟩
  have hp := hR.keys.length_eq
  rw [hD] at hp
  have h2 : (intKeys (DataW.map ((es.toList.map (Go.WideElems.rg Tryz.prog 3 heldR)).foldr DataW.insert []))).length = es.size := by
    show (List.map _ _).length = _
    rw [List.length_map, length_sorted, List.length_map, Array.length_toList]
  omega
/-- Who is kept, or still to come. -/
def kp (L : List Int) (left : Lit → Bool) (x : Int × Value) : Bool := decide (x.1 ∈ L) || left (.int .i64 x.1)
theorem kp_stays {L : List Int} {left : Lit → Bool} {t : Int} (ht : t ∈ L) (A : List (Int × Value)) : A.filter (kp L (fun z => left z && !z.sameKey (.int .i64 t))) = A.filter (kp L left) := by
  refine List.filter_congr (fun y _ => ?_)
  unfold kp
  by_cases e : y.1 = t
  · simp [e, ht]
  · simp [Lit.sameKey, e]
theorem kp_struck {L : List Int} {left : Lit → Bool} {t : Int} (ht : ¬ t ∈ L) (A : List (Int × Value)) : A.filter (kp L (fun z => left z && !z.sameKey (.int .i64 t))) = ridA t (A.filter (kp L left)) := by
  unfold ridA
  rw [List.filter_filter]
  refine List.filter_congr (fun y _ => ?_)
  unfold kp
  by_cases e : y.1 = t
  · simp [e, ht, Lit.sameKey]
  · simp [Lit.sameKey, e]
theorem kp_start {L : List Int} {D : DP} {A : List (Int × Value)} (hR : SetR (A.map (·.1)) D) : A.filter (kp L (has D)) = A := by
  refine List.filter_eq_self.2 (fun y hy => ?_)
  unfold kp
  rw [hR.mem y.1, decide_eq_true (List.mem_map.2 ⟨y, hy, rfl⟩), Bool.or_true]
theorem kp_end {L : List Int} {left : Lit → Bool} (hl : ∀ k, left k = false) (A : List (Int × Value)) : A.filter (kp L left) = A.filter (fun x => decide (x.1 ∈ L)) :=
  List.filter_congr (fun y _ => by unfold kp; rw [hl, Bool.or_false])
/-- Who is no other member is forgotten. -/
def RS.forget (s : RS) (L : List Int) : RS := { s with ps := s.ps.filter fun x => decide (x.1 ∈ L) }
def RS.put1 (s : RS) (next i : Int) : RS := match pget s.ps i with
  | some _ => s
  | none => { s with ps := (i, ⟨next, 0, 0⟩) :: s.ps }
theorem regard_eq (s : RS) (next : Int) : s.regard next = s.others.foldl (fun r i => r.put1 next i) (s.forget s.others) := rfl
def Hd.forget (h : Hd) (L : List Int) : Hd := { h with ph := h.ph.filter fun x => decide (x.1 ∈ L) }
theorem ptrs_forget (ph : List (Int × Pr × Nat)) (L : List Int) : ptrs (ph.filter fun x => decide (x.1 ∈ L)) = (ptrs ph).filter (fun x => decide (x.1 ∈ L)) := by
  unfold ptrs
  rw [List.filter_map]
  rfl
theorem Rf.forgot (H : Rf rb base s h w) (L : List Int) {W : World} {S : Nat → Prop} (hF : Fr S w W) (hS : ∀ k, S k → k = h.mb ∨ w.heap.size ≤ k) {n : Nat} {D : DP} (ho : W.ownsMap Tryz.prog 3 heldR h.mb n D) (hR : MapR ((ptrs h.ph).filter fun x => decide (x.1 ∈ L)) D) :
    Rf rb base (s.forget L) (h.forget L) W ∧ PS rb h (h.forget L) w W := by
  have hmk : ∀ k, S k → ∀ q, part rb h q k → q = .map := fun k e q hq => by
    rcases hS k e with e | e
    · exact H.dis q .map k hq e
    · have := (part_lt (H.all q) k hq).2; omega
  have hpr : ∀ q k, part rb (h.forget L) q k → part rb h q k := fun q k hk => by
    cases q with
    | peers =>
      obtain ⟨x, hx, e⟩ := hk
      exact ⟨x, (List.mem_filter.1 hx).1, e⟩
    | map => exact hk
    | core => exact hk
    | log => exact hk
    | snap => exact hk
    | votes => exact hk
    | msgs => exact hk
    | ents => exact hk
    | need => exact hk
  have hP := H.all .peers
  refine ⟨H.upd (fun q => q = .map ∨ q = .peers) (fun _ _ => False) hF (fun k hk q hq => .inl (hmk k hk q hq)) ?_ ?_ (fun q k hk => .inl (hpr q k hk)) (fun _ _ _ h => h.elim), ?_, fun q k hk => .inl (hpr q k hk)⟩
  · rintro q (rfl | rfl)
    · refine ⟨⟨D, ?_, ?_⟩, (H.all .map).2⟩
      · have h1 := own_tight ho hR.set
        rw [← ptrs_forget] at h1
        have h2 : ((ptrs (h.ph.filter fun x => decide (x.1 ∈ L))).map (·.1)).length = (h.forget L).ph.length := by
          unfold ptrs
          rw [List.length_map, List.length_map]
          rfl
        rw [h2] at h1
        exact h1
      · show MapR (ptrs (h.ph.filter fun x => decide (x.1 ∈ L))) D
        rw [ptrs_forget]
        exact hR
    · refine ⟨fun x hx => ?_, ?_, ?_⟩
      · have hx1 := (List.mem_filter.1 hx).1
        have hb := hP.1 x hx1
        obtain ⟨a, b, c, d⟩ := hb.1
        have hlt := cell_lt a
        have hm : ¬ S x.2.2 := fun e => by have := hmk _ e .peers ⟨x, hx1, rfl⟩; cases this
        exact ⟨⟨(hF.cell (p := ⟨x.2.2, 0, none⟩) hlt hm).trans a, (hF.cell (p := ⟨x.2.2, 1, none⟩) hlt hm).trans b, (hF.cell (p := ⟨x.2.2, 2, none⟩) hlt hm).trans c, fun k hk => (hF.frozen (p := ⟨x.2.2, k, none⟩) hlt hm).trans (d k hk)⟩, hb.2⟩
      · show (h.ph.filter fun x => decide (x.1 ∈ L)).map (fun x => (x.1, x.2.1)) = s.ps.filter fun x => decide (x.1 ∈ L)
        rw [← hP.2.1, List.filter_map]
        rfl
      · exact hP.2.2.sublist ((List.filter_sublist (l := h.ph)).map _)
  · intro q hq hh
    cases q with
    | map => exact absurd (.inl rfl) hq
    | peers => exact absurd (.inr rfl) hq
    | core => exact hh
    | log => exact hh
    | snap => exact hh
    | votes => exact hh
    | msgs => exact hh
    | ents => exact hh
    | need => exact hh
  · refine hF.mono (fun k hk e => ?_)
    rcases hS k e with e | e
    · exact ⟨.map, e⟩
    · omega
theorem RB.forget (B : RB M N s) (L : List Int) : RB M N (s.forget L) :=
  ⟨B.id, B.log, B.top, B.big, B.few, B.low, B.da, B.snap, fun x hx => B.ps x (List.mem_filter.1 hx).1, B.nd.sublist ((List.filter_sublist (l := s.ps)).map _), B.term, B.round, B.commit, B.ltm⟩
theorem RB.put1 (B : RB M N s) {next i : Int} (hi : 1 ≤ i ∧ i ≤ 64) (hn : 1 ≤ next ∧ next ≤ M + 1) : RB M N (s.put1 next i) := by
  unfold RS.put1
  cases hp : pget s.ps i with
  | some p => exact B
  | none =>
    refine ⟨B.id, B.log, B.top, B.big, B.few, B.low, B.da, B.snap, fun x hx => ?_, ?_, B.term, B.round, B.commit, B.ltm⟩
    · rcases List.mem_cons.1 hx with rfl | hx
      · have h1 := B.round
        have h2 := B.commit
        exact ⟨hi, hn, ⟨Int.le_refl _, by show (0 : Int) ≤ M; omega⟩, ⟨Int.le_refl _, by show (0 : Int) ≤ _; omega⟩⟩
      · exact B.ps x hx
    · refine List.nodup_cons.2 ⟨fun hm => ?_, B.nd⟩
      obtain ⟨y, hy, e⟩ := List.mem_map.1 hm
      exact pget_none.1 hp y hy e
theorem RB.putAll (B : RB M N s) {next : Int} (hn : 1 ≤ next ∧ next ≤ M + 1) : ∀ (L : List Int), (∀ i ∈ L, 1 ≤ i ∧ i ≤ 64) → RB M N (L.foldl (fun r i => r.put1 next i) s) := by
  intro L
  induction L generalizing s with
  | nil => exact fun _ => B
  | cons y L ih => exact fun h => ih (B.put1 (h y List.mem_cons_self) hn) (fun i hi => h i (List.mem_cons_of_mem _ hi))
theorem putAll_take {next : Int} {L : List Int} {i : Nat} (hi : i < L.length) : (L.take (i + 1)).foldl (fun r i => r.put1 next i) s = ((L.take i).foldl (fun r i => r.put1 next i) s).put1 next (HL.el L i) := by
  rw [take_snoc hi, List.foldl_append]
  rfl
theorem put1_out (s : RS) (next i : Int) : (s.put1 next i).out = s.out := by
  unfold RS.put1
  split <;> rfl
theorem putAll_out {next : Int} : ∀ (L : List Int) (s : RS), (L.foldl (fun r i => r.put1 next i) s).out = s.out
  | [], _ => rfl
  | y :: L, s => (putAll_out L (s.put1 next y)).trans (put1_out s next y)
theorem RB.regard (B : RB M N s) {next : Int} (hn : 1 ≤ next ∧ next ≤ M + 1) : RB M N (s.regard next) := by
  rw [regard_eq]
  exact (B.forget _).putAll hn _ (fun i hi => ⟨(B.othId i hi).1, (B.othId i hi).2.1⟩)
theorem regard_out (s : RS) (next : Int) : (s.regard next).out = s.out := by
  rw [regard_eq, putAll_out]
  rfl
end
end RF
end Go.Proofs.YtaodldagmmephaaGreat

/- raft: regard. -/
namespace Go.Proofs.YtaodldagmmephaaGreat
open Go.RowKit Go.Maps
namespace RF
section
variable {rb base : Nat} {s : RS} {h : Hd} {w : World} {M : Int} {N : Nat}
set_option maxHeartbeats 2000000 in
set_option maxRecDepth 100000 in
theorem rf_regard (next : Int) (H : Rf rb base s h w) (B : RB M N s) (hn : 1 ≤ next ∧ next ≤ M + 1) :
    Calls Tryz.prog 64 #[.pointer (some ⟨rb, 0, none⟩), .int .i64 next] w fun e w' => e = .returned (.tuple #[]) ∧ ∃ h', Rf rb base (s.regard next) h' w' ∧ PS rb h h' w w' ∧ h'.mh = h.mh := by
  have HO := Lib.hid (rf_others H B)
  have HH := Lib.hid H
  have hon := B.oth
  have HID := Lib.hid B.othId
  have HRE : Hid (s.regard next = s.others.foldl (fun r i => r.put1 next i) (s.forget s.others)) := Lib.hid (regard_eq s next)
  have HKB := Lib.hid (fun i => (B.forget s.others).putAll hn (s.others.take i) (fun x hx => ⟨(B.othId x (List.mem_of_mem_take hx)).1, (B.othId x (List.mem_of_mem_take hx)).2.1⟩))
  generalize s.others = L at *
  clear H B hn
  go_enter Tryz.func64, Tryz.ntmps64
  go_wp2_with fail
  with_reducible refine (HO.out).mono ?_
  rintro e w2 ⟨q, c, rfl, ho2, hb2⟩
  have HR2 := Lib.hid (HH.out.below hb2)
  have HB2 := Lib.hid hb2
  have HO2 := Lib.hid ho2
  have c11 : w2.cell? ⟨rb, 11, none⟩ = some (.map (some h.mb)) := HR2.out.cell 11 rfl
  obtain ⟨D, hown, hMR⟩ := (HR2.out.all .map).1
  have HMR := Lib.hid hMR
  clear ho2 hb2 HO hMR
  go_wp2_with (first
    | (at_range; refine wpList_range_own _ rfl _ 87 rfl 3 121 keyedI Tryz.underlying87 heldR h.mb h.ph.length D rfl hown ?_; intro w3 hrg0 hg0 hs0)
    | fail)
  go_frame
  have HG0 := Lib.hid hg0
  clear hg0 hs0 hown c11
  go_loopw [5] (fun _ wr => ∃ (left : Lit → Bool) (cnt : Nat) (D1 : DP), wr.ranges Tryz.prog 3 heldR h.mb w2.heap.size h.ph.length D1 left cnt ∧ Hid (MapR ((ptrs h.ph).filter (kp L left)) D1 ∧ w2.grownBy wr (some h.mb))) (fun _ wr => wr.rangeLeft h.mb w2.heap.size)
  case atStart => exact ⟨_, _, D, hrg0, Lib.hid ⟨by rw [kp_start HMR.out.set]; exact HMR.out, HG0.out.but _⟩⟩
  case round =>
    clear hrg0
    obtain ⟨left, cnt, D1, hrg, HG⟩ := hrel
    go_wp2_with (first
      | (at_next; refine wpList_next_ranges _ rfl _ rfl 3 keyedI heldR (Value.int .i64) (fun v : Value => v) (fun key kl hkey => by obtain ⟨x, rfl, _⟩ := Maps.keyOf_int_inv Tryz.underlying3 hkey; exact ⟨x, rfl⟩) (fun v y _ => ⟨v, rfl⟩) h.mb w2.heap.size h.ph.length D1 left cnt rfl hrg ?_ ?_)
      | fail)
    · intro _ hl0
      have hkeep : Fr (fun k => k = h.mb) w2 wr := Fr.of_grown HG.out.2 (fun i _ e => by injection e with e; exact e.symm)
      have hfg := HR2.out.forgot L hkeep (fun k e => .inl e) hrg.owns (by rw [← kp_end hl0]; exact HG.out.1)
      have HR3 := Lib.hid hfg.1
      have HP3 := Lib.hid hfg.2
      clear hkeep hfg hl0 hrg HG HMR HG0
      go_wp2
      go_loopw [30] (fun iv wr2 => ∃ (i : Nat) (h' : Hd), i ≤ L.length ∧ iv = .int .i64 i ∧ Hid (Rf rb base ((L.take i).foldl (fun r i => r.put1 next i) (s.forget L)) h' wr2 ∧ PS rb h h' w2 wr2 ∧ h'.mh = h.mh)) (fun iv _ => L.length - (intOf iv).toNat)
      case atStart => exact ⟨0, h.forget L, Nat.zero_le _, rfl, Lib.hid ⟨HR3.out, HP3.out, rfl⟩⟩
      case round =>
        obtain ⟨i, h', hi, rfl, HR⟩ := hrel
        by_cases hlt : i < L.length
        · have hltI : (i : Int) < (L.length : Int) := by omega
          obtain ⟨g, cap, hgv, hg1, hg2, hg3⟩ := owns_len HO2.out (by omega)
          injection hgv with hgv _ hgc
          subst hgv hgc
          have hrd := RdI.of_own HO2.out rfl
          have d1 := oth_cells HH.out HB2.out hg1 hg2 (fun k hk => by obtain ⟨b, o, e, _, hc⟩ := hrd.2 (by omega); injection e with e; injection e with e1 e2 _; subst e1 e2; exact hc k hk) HR.out.2.1 i hlt
          rw [Nat.zero_add] at d1
          have h3 := HID.out _ (el_mem hlt)
          have HN : Hid ((L.take (i + 1)).foldl (fun r i => r.put1 next i) (s.forget L) = ((L.take i).foldl (fun r i => r.put1 next i) (s.forget L)).put1 next (HL.el L i)) := Lib.hid (putAll_take hlt)
          have HBI := Lib.hid (HKB.out i)
          generalize HL.el L i = x at *
          generalize (L.take i).foldl (fun r i => r.put1 next i) (s.forget L) = z at *
          have hid := id_wf (x := x) (by omega) (by omega)
          have c11 : wr.cell? ⟨rb, 11, none⟩ = some (.map (some h'.mb)) := HR.out.1.cell 11 rfl
          clear hrd h3
          rcases ptr_look HR.out.1 x hid with ⟨p, pb, hp, hx, hrun⟩ | ⟨hp, hrun⟩
          · have HE : Hid (z.put1 next x = z) := Lib.hid (by unfold RS.put1; rw [hp])
            clear hp hx
            go_wp2
            go_roundw
            case rel => exact ⟨i + 1, h', by omega, by go_num, Lib.hid ⟨by rw [HN.out, HE.out]; exact HR.out.1, HR.out.2.1, HR.out.2.2⟩⟩
            case measure => simp [intOf]; omega
          · have HE : Hid (z.put1 next x = { z with ps := (x, ⟨next, 0, 0⟩) :: z.ps }) := Lib.hid (by unfold RS.put1; rw [hp])
            have hkn := HBI.out.kn
            have HST := Lib.hid (fun W pb (HW : Rf rb base z h' W) hb hlo2 hnew => ptr_store HW x hid ⟨next, 0, 0⟩ pb hb hlo2 hnew hp (by omega))
            have hc := heap_alloc_new wr (.cells #[.int .i64 next, .int .i64 0, .int .i64 0] 123)
            have hb3 : Below wr.heap.size wr (wr.alloc (.cells #[.int .i64 next, .int .i64 0, .int .i64 0] 123)) := (Below.refl _ wr).alloc (Nat.le_refl _) _
            have hbx : boxPr (x, ⟨next, 0, 0⟩, wr.heap.size) (wr.alloc (.cells #[.int .i64 next, .int .i64 0, .int .i64 0] 123)) := by
              have cc : ∀ k u, (#[Value.int .i64 next, .int .i64 0, .int .i64 0])[k]? = some u → (wr.alloc (.cells #[.int .i64 next, .int .i64 0, .int .i64 0] 123)).cell? ⟨wr.heap.size, k, none⟩ = some u := fun k u hu => by
                rw [cell_of_row _ _ _ _ _ _ hc]; exact hu
              exact ⟨cc 0 _ rfl, cc 1 _ rfl, cc 2 _ rfl, fun k _ => frozen_of_row _ _ _ _ _ hc⟩
            have HR4 := HR.out.1.below hb3
            obtain ⟨w4, hup, hr4, hf4⟩ := HST.out _ wr.heap.size HR4 hbx (by have := HR.out.1.bs; omega) (fun q hq => by have := (part_lt (HR.out.1.all q) _ hq).2; omega)
            have d11 : (wr.alloc (.cells #[.int .i64 next, .int .i64 0, .int .i64 0] 123)).cell? ⟨rb, 11, none⟩ = some (.map (some h'.mb)) := HR4.cell 11 rfl
            have HPS : Hid (PS rb h' { h' with ph := (x, ⟨next, 0, 0⟩, wr.heap.size) :: h'.ph } wr w4) := Lib.hid (by
              refine ⟨Fr.trans (Fr.of_all (S := Fo rb h') hb3) (hf4.mono (T := Fo rb h') (fun _ _ e => ⟨.map, e⟩)) (fun i hi _ => hi), fun q k hk => ?_⟩
              cases q with
              | peers =>
                obtain ⟨y, hy, e⟩ := hk
                rcases List.mem_cons.1 hy with rfl | hy
                · exact .inr (by have e : wr.heap.size = k := e; omega)
                · exact .inl ⟨y, hy, e⟩
              | map => exact .inl hk
              | core => exact .inl hk
              | log => exact .inl hk
              | snap => exact .inl hk
              | votes => exact .inl hk
              | msgs => exact .inl hk
              | ents => exact .inl hk
              | need => exact .inl hk)
            have HR5 := Lib.hid (And.intro hr4 (And.intro (HR.out.2.1.trans HPS.out) HR.out.2.2))
            clear hc hbx HR4 hr4 hf4 hb3 HST hp hkn HPS
            go_wp2
            go_roundw
            case rel => exact ⟨i + 1, _, by omega, by go_num, Lib.hid ⟨by rw [HN.out, HE.out]; exact HR5.out.1, HR5.out.2.1, HR5.out.2.2⟩⟩
            case measure => simp [intOf]; omega
        · obtain rfl : i = L.length := by omega
          have htk : L.take L.length = L := List.take_length
          rw [htk] at HR
          go_wp2
          go_end0
          exact ⟨rfl, h', by rw [HRE.out]; exact HR.out.1, (PS.still HB2.out).trans HR.out.2.1, HR.out.2.2⟩
    · intro x v kl y1 y2 w4 cnt1 hkey hlx hRv hat hrg1 hlt hg1 hs1 hen
      obtain ⟨x', ex, hkl, hwx⟩ := Maps.keyOf_int_inv Tryz.underlying3 hkey
      injection ex with _ ex
      subst ex hkl
      have hgw1 := HG.out.2.andThen hg1 (fun j hj => by cases hj; exact .inl (Nat.le_refl _))
      have HFR : Hid (Fr (fun k => k = h.mb) w2 w4) := Lib.hid (Fr.of_grown hgw1 (fun i _ e => by injection e with e; exact e.symm))
      have HG4 := Lib.hid hgw1
      have c11 : w4.cell? ⟨rb, 11, none⟩ = some (.map (some h.mb)) := (HFR.out.cell (p := ⟨rb, 11, none⟩) HR2.out.rlt (fun e => by have := HR2.out.dis .core .map rb rfl e; cases this)).trans (HR2.out.cell 11 rfl)
      have HHS := Lib.hid (has_ints q L.length c w4.heap.size L x w4 (RdI.of_own (HFR.out.owns HO2.out (fun g hg e => by have := (HO2.out.lt g hg).1; have := (part_lt (HH.out.all .map) h.mb rfl).2; have e : g = h.mb := e; omega)) rfl) (by omega))
      clear hgw1 hg1 hat hRv
      by_cases hin : x ∈ L
      · rw [decide_eq_true hin] at HHS
        have HST := Lib.hid (kp_stays (left := left) hin (ptrs h.ph))
        clear hin
        go_wp2_with fail
        with_reducible refine (HHS.out).mono ?_
        rintro e w5 ⟨rfl, rfl⟩
        go_wp2
        go_roundw
        case rel => exact ⟨_, cnt1, D1, hrg1, Lib.hid ⟨by rw [HST.out]; exact HG.out.1, HG4.out⟩⟩
        case measure => rw [hrg1.left_eq, hrg.left_eq]; exact hlt
      · rw [decide_eq_false hin] at HHS
        have HST := Lib.hid (kp_struck (left := left) hin (ptrs h.ph))
        clear hin
        go_wp2_with fail
        with_reducible refine (HHS.out).mono ?_
        rintro e w5 ⟨rfl, rfl⟩
        go_wp2_with (first
          | (at_delete; refine wpList_delete_ranges _ rfl _ _ 87 3 rfl 121 keyedI Tryz.underlying87 heldR h.mb w2.heap.size h.ph.length D1 _ _ rfl hrg1 _ _ rfl (key_of hwx) ?_; intro w6 cnt2 hrg2 hle hturn; go_frame)
          | fail)
        rw [strike_twice] at hrg2
        go_roundw
        case rel => exact ⟨_, cnt2, _, hrg2, Lib.hid ⟨by rw [HST.out]; exact HG.out.1.del x, HG4.out.andThen hturn.grown (fun j hj => by cases hj; exact .inr rfl)⟩⟩
        case measure => rw [hrg2.left_eq, hrg.left_eq]; omega
end
end RF
end Go.Proofs.YtaodldagmmephaaGreat

/- raft: mayChange. -/
namespace Go.Proofs.YtaodldagmmephaaGreat
open Go.RowKit Go.Maps
namespace RF
section
variable {rb base : Nat} {s : RS} {h : Hd} {w : World} {M : Int} {N : Nat}
theorem own_nilc {W : World} {b : Nat} {e : TypeId} {sz n c : Nat} {p : Option Addr} {m : Nat} {xs : List Value} (ho : W.ownsRow b e sz (.slice p m c) n xs) : p = none → c = 0 := by
  intro hp
  subst hp
  rcases ho.2 with ⟨e1, _⟩ | ⟨g, cap, cur, e1, _⟩
  · injection e1
  · injection e1 with e1
    cases e1
set_option maxHeartbeats 2000000 in
set_option maxRecDepth 100000 in
theorem rf_may (da : ByteArray) (H : Rf rb base s h w) (B : RB M N s) (hda : da.size ≤ 2000000) :
    Calls Tryz.prog 62 #[.pointer (some ⟨rb, 0, none⟩), .string da] w fun e w' => e = .returned (.int .i64 (s.may da)) ∧ Below w.heap.size w w' := by
  have HG := Lib.hid (get_members da w hda)
  have HH := Lib.hid H
  have HBB := Lib.hid B
  have HM0 : Hid (s.may da = match gm da with
    | none => 1
    | some m => if validB m = false ∨ CL.near m s.all = false ∨ ¬ s.id ∈ m then 1
      else if s.commit < (lmemV s.l s.last).2 ∨ s.sure = false then 22 else 0) := Lib.hid rfl
  clear H B
  cases hgm : gm da with
  | none =>
    rw [hgm] at HG
    have HE : Hid (s.may da = 1) := Lib.hid (by rw [HM0.out, hgm])
    go_enter Tryz.func62, Tryz.ntmps62
    go_wp2_with fail
    with_reducible refine (HG.out).mono ?_
    rintro e w1 ⟨v, c, rfl, hb1, hc1, hc2, rfl⟩
    have d1 : (c != 0) = true := by
      have : c ≠ 0 := by omega
      simp [this]
    have HB1 := Lib.hid hb1
    clear hb1 HG hc1 hc2 HM0
    go_wp2_with fail
    go_ret
    exact ⟨by rw [HE.out]; rfl, HB1.out⟩
  | some m =>
  rw [hgm] at HG
  have hval := gm_valid hgm
  have HVB : Hid (validB m = true) := Lib.hid ((valid_iff m).2 hval)
  have HM1 : Hid (s.may da = if validB m = false ∨ CL.near m s.all = false ∨ ¬ s.id ∈ m then 1
      else if s.commit < (lmemV s.l s.last).2 ∨ s.sure = false then 22 else 0) := Lib.hid (by rw [HM0.out, hgm])
  have HVV := Lib.hid hval
  have hm9 := hval.2.1
  clear hgm HM0 hval
  go_enter Tryz.func62, Tryz.ntmps62
  go_wp2_with fail
  with_reducible refine (HG.out).mono ?_
  rintro e w1 ⟨v, c, rfl, hb1, rfl, ho1⟩
  obtain ⟨p1, c1, hv1⟩ := owns_slice ho1
  subst hv1
  have HB1 := Lib.hid hb1
  have HO1 := Lib.hid ho1
  have HP1 := Lib.hid (own_nilc ho1)
  have HVA := Lib.hid (valid_ints p1 m.length c1 w1.heap.size m w1 (RdI.of_own ho1 rfl))
  clear hb1 HG ho1
  go_wp2_with fail
  with_reducible refine (HVA.out).mono ?_
  rintro e w2 ⟨b, k, rfl, hbv, hw2⟩
  have hbt : b = true := hbv.2 HVV.out
  subst hbt
  have hb12 : Below w1.heap.size w1 w2 := by rw [hw2]; exact ((Fr.refl (fun _ => False) w1).drewN k).below (Nat.le_refl _) (fun _ h => h.elim)
  have HB2 := Lib.hid (HB1.out.trans (hb12.mono HB1.out.size))
  have HO2 := Lib.hid ((Fr.of_all (S := fun _ => False) hb12).owns HO1.out (fun _ _ h => h))
  have HAL := Lib.hid (rf_all (HH.out.below HB2.out) HBB.out.da)
  clear hbv hw2 HVA HO1 HB1 hb12 HVV
  (try clear w1)
  go_wp2_with fail
  with_reducible refine (HAL.out).mono ?_
  rintro e w3 ⟨v3, rfl, ho3, hb3⟩
  obtain ⟨p3, c3, hv3⟩ := owns_slice ho3
  subst hv3
  have HB3 := Lib.hid (HB2.out.trans (hb3.mono HB2.out.size))
  have HO3 := Lib.hid ((Fr.of_all (S := fun _ => False) hb3).owns HO2.out (fun _ _ h => h))
  have ha9 := HBB.out.all.2.1
  have HNR := Lib.hid (near_ints p1 p3 m.length c1 s.all.length c3 m s.all w3 (rdi_wide (RdI.of_own HO3.out rfl) (Nat.le_refl _)) (rdi_wide (RdI.of_own ho3 rfl) (Nat.le_refl _)) HP1.out (own_nilc ho3) (by omega) (by omega))
  clear hb3 ho3 HAL HO2 HB2 ha9
  cases hnr : CL.near m s.all with
  | false =>
    rw [hnr] at HNR
    have HE : Hid (s.may da = 1) := Lib.hid (by rw [HM1.out, if_pos (.inr (.inl hnr))])
    clear hnr
    go_wp2_with fail
    with_reducible refine (HNR.out).mono ?_
    rintro e w4 ⟨rfl, hb4⟩
    have HB4 := Lib.hid (HB3.out.trans (hb4.mono HB3.out.size))
    clear hb4
    go_wp2_with fail
    go_ret
    exact ⟨by rw [HE.out]; rfl, HB4.out⟩
  | true =>
  rw [hnr] at HNR
  have HNT := Lib.hid hnr
  clear hnr
  go_wp2_with fail
  with_reducible refine (HNR.out).mono ?_
  rintro e w4 ⟨rfl, hb4⟩
  have HB4 := Lib.hid (HB3.out.trans (hb4.mono HB3.out.size))
  have HO4 := Lib.hid ((Fr.of_all (S := fun _ => False) hb4).owns HO3.out (fun _ _ h => h))
  have HR4 := Lib.hid (HH.out.below HB4.out)
  have HHS := Lib.hid (has_ints p1 m.length c1 w4.heap.size m s.id w4 (RdI.of_own HO4.out rfl) (by omega))
  have c0 : w4.cell? ⟨rb, 0, none⟩ = some (.int .i64 s.id) := HR4.out.cell 0 rfl
  clear hb4 HNR HO3 HB3
  by_cases hin : s.id ∈ m
  case neg =>
    rw [decide_eq_false hin] at HHS
    have HE : Hid (s.may da = 1) := Lib.hid (by rw [HM1.out, if_pos (.inr (.inr hin))])
    clear hin
    go_wp2_with fail
    with_reducible refine (HHS.out).mono ?_
    rintro e w5 ⟨rfl, rfl⟩
    go_wp2_with fail
    go_ret
    exact ⟨by rw [HE.out]; rfl, HB4.out⟩
  case pos =>
  rw [decide_eq_true hin] at HHS
  have HM2 : Hid (s.may da = if s.commit < (lmemV s.l s.last).2 ∨ s.sure = false then 22 else 0) := Lib.hid (by
    rw [HM1.out, if_neg]
    rintro (h1 | h1 | h1)
    · rw [HVB.out] at h1; cases h1
    · rw [HNT.out] at h1; cases h1
    · exact h1 hin)
  clear hin HM1 HNT HVB
  go_wp2_with fail
  with_reducible refine (HHS.out).mono ?_
  rintro e w5 ⟨rfl, rfl⟩
  clear HHS
  have q10 : ∀ q : Later w4, q.1.cell? ⟨rb, 10, none⟩ = some (.pointer (some ⟨h.xb, 0, none⟩)) := HR4.out.q 10 rfl
  have HLA := Lib.hid (fun W (hW : Below w4.heap.size w4 W) => rf_last (HR4.out.below hW))
  have HLM := Lib.hid (fun W (hW : Below w4.heap.size w4 W) => lg_members s.last ((HR4.out.below hW).all .log) HBB.out.da)
  have HCB := Lib.hid HBB.out.commit
  have hbig := HBB.out.big
  have HSU := Lib.hid (fun W (hW : Below w4.heap.size w4 W) => rf_sure (HR4.out.below hW) (by have := HCB.out; omega))
  clear c0
  generalize s.last = la at *
  generalize hmv : lmemV s.l la = mv at *
  obtain ⟨mm, at'⟩ := mv
  dsimp only at HM2 HLM
  go_upto_region 4 with fail
  refine Mix.region_mix (n := 11) (m := 7) (fun V => ∃ q : Later w4, V = q.1) [0, 1, 2, 3, 4] (by kernel_rfl) rfl rfl (by kernel_rfl) (by kernel_rfl) ⟨⟨_, (Below.refl _ _).drew⟩, rfl⟩ ?_
  repeat (refine Mix.picks_step rfl ?_; go_big_quiet_step (fail))
  refine Mix.picks_nil ?_
  intro inv
  refine sink_one (i := 5) (by kernel_rfl) rfl (by omega) inv (fun K hK => ?_)
  have HKK := Lib.hid hK
  clear hK
  go_simp
  with_reducible refine (HLA.out _ (Below.refl _ _).drew).mono ?_
  rintro e w6 ⟨rfl, hb6⟩
  have HB6 : Hid (Below w4.heap.size w4 w6) := Lib.hid ((Below.refl _ _).drew.trans (hb6.mono (Nat.le_refl _)))
  clear hb6
  refine HKK.out _ _ ⟨⟨_, HB6.out⟩, rfl⟩ ?_
  clear HKK inv
  intro hS inv
  (try simp only [Act.put]); (try simp only [List.setIfInBounds_toArray]); (try simp only [List.set_cons_succ]); (try simp only [List.set_cons_zero])
  refine sink_one (i := 6) (by kernel_rfl) rfl (by omega) inv (fun K hK => ?_)
  have HKK := Lib.hid hK
  clear hK
  go_simp
  with_reducible refine (HLM.out _ HB6.out).mono ?_
  rintro e w7 ⟨v7, rfl, ho7, hb7⟩
  obtain ⟨p7, c7, hv7⟩ := owns_slice ho7
  subst hv7
  have HB7 : Hid (Below w4.heap.size w4 w7) := Lib.hid (HB6.out.trans (hb7.mono HB6.out.size))
  clear hb7 ho7
  refine HKK.out _ _ ⟨⟨_, HB7.out⟩, rfl⟩ ?_
  clear HKK inv
  intro hS inv
  (try simp only [Act.put]); (try simp only [List.setIfInBounds_toArray]); (try simp only [List.set_cons_succ]); (try simp only [List.set_cons_zero])
  refine Mix.more2 [7, 8, 9, 10] (m := 1) rfl (by kernel_rfl) (by kernel_rfl) inv ⟨⟨_, HB7.out⟩, rfl⟩ (Mix.picks_cons rfl (Mix.picks_cons rfl (Mix.picks_cons rfl (Mix.picks_cons rfl Mix.picks_end)))) ?_
  repeat (go_big_quiet_step (fail))
  refine wpQuiet_nil ?_
  clear inv
  intro inv
  refine sink_last (by kernel_rfl) rfl (by kernel_rfl) (fun K hK => ?_)
  have HKK := Lib.hid hK
  clear hK
  go_simp
  refine HKK.out _ _ ⟨rfl, ?_⟩
  clear HKK inv hS
  have HBF := Lib.hid (HB4.out.trans (HB7.out.mono HB4.out.size))
  have HR7 := Lib.hid (HR4.out.below HB7.out)
  have c5 : w7.cell? ⟨rb, 5, none⟩ = some (.int .i64 s.commit) := HR7.out.cell 5 rfl
  by_cases hat : s.commit < at'
  · have d5 : decide (s.commit < at') = true := decide_eq_true hat
    have HE : Hid (s.may da = 22) := Lib.hid (by rw [HM2.out, if_pos (.inl hat)])
    clear hat q10 HLA HLM
    go_wp2_with fail
    go_ret
    exact ⟨by rw [HE.out]; rfl, HBF.out⟩
  · have d5 : decide (s.commit < at') = false := decide_eq_false hat
    have HSV := Lib.hid (HSU.out w7 HB7.out)
    cases hsu : s.sure with
    | false =>
      rw [hsu] at HSV
      have HE : Hid (s.may da = 22) := Lib.hid (by rw [HM2.out, if_pos (.inr hsu)])
      clear hat q10 HLA HLM hsu
      go_wp2_with fail
      with_reducible refine (HSV.out).mono ?_
      rintro e w8 ⟨rfl, hb8⟩
      have HB8 := Lib.hid (HBF.out.trans (hb8.mono HBF.out.size))
      clear hb8
      go_wp2_with fail
      go_ret
      exact ⟨by rw [HE.out]; rfl, HB8.out⟩
    | true =>
      rw [hsu] at HSV
      have HE : Hid (s.may da = 0) := Lib.hid (by
        rw [HM2.out, if_neg]
        rintro (h1 | h1)
        · exact hat h1
        · rw [hsu] at h1; cases h1)
      clear hat q10 HLA HLM hsu
      go_wp2_with fail
      with_reducible refine (HSV.out).mono ?_
      rintro e w8 ⟨rfl, hb8⟩
      have HB8 := Lib.hid (HBF.out.trans (hb8.mono HBF.out.size))
      clear hb8
      go_wp2_with fail
      go_ret
      exact ⟨by rw [HE.out]; rfl, HB8.out⟩
end
end RF
end Go.Proofs.YtaodldagmmephaaGreat

/- raft: Propose (printed by gen-prop.py). -/
namespace Go.Proofs.YtaodldagmmephaaGreat
open Go.RowKit Go.Maps
namespace RF
/-- What Propose answers. -/
def PropAns (rb base : Nat) (s : RS) (h : Hd) (kd : Int) (da : ByteArray) (w : World) (e : Ending) (w' : World) : Prop :=
  ∃ v, e = .returned (.tuple #[.int .i64 (if s.propE kd da = 0 then s.last + 1 else 0), v, .int .i64 (s.propE kd da)]) ∧ Ans rb base (if s.propE kd da = 0 then s.prop0 kd da else s) h w (.returned v) w'
section
variable {rb base : Nat} {s : RS} {h : Hd} {w : World} {M : Int} {N : Nat}
theorem PropAns.no {kd c : Int} {da : ByteArray} {v : Value} {w' : World} (hn : s.propE kd da = c) (hc : c ≠ 0) (hA : Ans rb base s h w (.returned v) w') : PropAns rb base s h kd da w (.returned (.tuple #[.int .i64 0, v, .int .i64 c])) w' := by
  have h1 : ¬ s.propE kd da = 0 := by rw [hn]; exact hc
  exact ⟨v, by rw [if_neg h1, hn], by rw [if_neg h1]; exact hA⟩
theorem PropAns.yes {kd : Int} {da : ByteArray} {v : Value} {w' : World} (hn : s.propE kd da = 0) (hA : Ans rb base (s.prop0 kd da) h w (.returned v) w') : PropAns rb base s h kd da w (.returned (.tuple #[.int .i64 (s.last + 1), v, .int .i64 0])) w' :=
  ⟨v, by rw [if_pos hn, hn], by rw [if_pos hn]; exact hA⟩
theorem PropAns.yes' {kd x : Int} {da : ByteArray} {v : Value} {w' : World} (hn : s.propE kd da = 0) (hx : s.last + 1 = x) (hA : Ans rb base (s.prop0 kd da) h w (.returned v) w') : PropAns rb base s h kd da w (.returned (.tuple #[.int .i64 x, v, .int .i64 0])) w' := by
  subst hx; exact PropAns.yes hn hA
theorem prop_pre (B : RB M N s) (kd : Int) {da : ByteArray} (hda : da.size ≤ 2000000) (hM : M < 4503599627370496) (hN : N < 10000) : RB (M + 1) (N + 1) ((s.add kd da).regard (s.last + 1)) ∧ ((s.add kd da).regard (s.last + 1)).out.nd = s.out.nd := by
  have h0 := (newOk_parts B.log).1
  have h1 := B.lastE
  have h2 := B.top
  refine ⟨(B.add kd hda hM hN).regard ⟨by omega, by omega⟩, ?_⟩
  rw [regard_out]
  unfold RS.add
  rw [changed_nd]
  rfl
theorem RB.prop0 (B : RB M N s) (kd : Int) {da : ByteArray} (hda : da.size ≤ 2000000) (hM : M < 4503599627370496) (hN : N < 10000) : RB (M + 1) (N + 1) (s.prop0 kd da) := by
  have h1 := (prop_pre B kd hda hM hN).1.count
  unfold RS.prop0
  dsimp only
  split
  · exact h1.sendAll
  · exact h1
set_option maxHeartbeats 2000000 in
set_option maxRecDepth 100000 in
theorem rf_prop (kd : Int) (da : ByteArray) (H : Rf rb base s h w) (B : RB M N s) (hM : M < 4503599627370496) (hN : N < 10000) (hcl : h.clean) (hout : s.out = ot0) (hds : da.size < 9223372036854775808) :
    Calls Tryz.prog 20 #[.pointer (some ⟨rb, 0, none⟩), .int .i64 kd, .string da] w (PropAns rb base s h kd da w) := by
  have HB1 : Hid (Below w.heap.size w (w.alloc (.cells #[.slice none 0 0, .bool false, .int .i64 0, .slice none 0 0] 37))) := Lib.hid ((Below.refl _ w).alloc (Nat.le_refl _) _)
  have HSZ : Hid ((w.alloc (.cells #[.slice none 0 0, .bool false, .int .i64 0, .slice none 0 0] 37)).heap.size = w.heap.size + 1) := Lib.hid (World.size_alloc _ _)
  have HX1 := Lib.hid (CBox.fresh w [.slice none 0 0, .bool false, .int .i64 0, .slice none 0 0] 37)
  have HH := Lib.hid H
  have HR1 := Lib.hid (H.below HB1.out)
  have HBB := Lib.hid B
  have HCL := Lib.hid hcl
  have HOU := Lib.hid hout
  have HMH : Hid (h.mh.length = 0) := Lib.hid (by rw [hcl.2.1]; rfl)
  have HND : Hid (s.out.nd.length = 0) := Lib.hid (by rw [hout]; rfl)
  have HP0 : Hid (s.propE kd da = if s.role ≠ 2 then 21
  else if (kd ≠ 1 ∧ kd ≠ 2) ∨ 2200 < da.size then 1
  else if 400 ≤ s.l.length then 10
  else if kd = 2 then s.may da else 0) := Lib.hid rfl
  have HPP : Hid (s.prop0 kd da = if (((s.add kd da).regard (s.last + 1)).count).role = 2 then (((s.add kd da).regard (s.last + 1)).count).sendAll else ((s.add kd da).regard (s.last + 1)).count) := Lib.hid rfl
  have hfew : s.l.length ≤ 10000 := Nat.le_trans B.few B.low
  clear H B hcl hout
  go_enter Tryz.func20, Tryz.ntmps20
  go_upto_region 1 with fail
  dsimp only [List.toArray] at HX1
  generalize w.alloc (.cells #[.slice none 0 0, .bool false, .int .i64 0, .slice none 0 0] 37) = W1 at *
  have HNO := Lib.hid (rf_none HR1.out)
  go_upto_region 3 with (with_reducible refine HNO.out.mono ?_; rintro e Wb ⟨rfl, hWb⟩; have hWb := hWb.symm; subst hWb)
  have c1 : W1.cell? ⟨rb, 1, none⟩ = some (.int .i64 s.role) := HR1.out.cell 1 rfl
  have c10 : W1.cell? ⟨rb, 10, none⟩ = some (.pointer (some ⟨h.xb, 0, none⟩)) := HR1.out.cell 10 rfl
  by_cases hrole : s.role = 2
  case neg =>
    have d1 : (s.role != 2) = true := by simp [hrole]
    have HE : Hid (s.propE kd da = 21) := Lib.hid (by rw [HP0.out, if_pos hrole])
    clear hrole
    have t0 := HX1.out.1 0 _ rfl
    have t1 := HX1.out.1 1 _ rfl
    have t2 := HX1.out.1 2 _ rfl
    have t3 := HX1.out.1 3 _ rfl
    have u0 := HX1.out.2.1 0 (by show 0 < 4; omega)
    have u1 := HX1.out.2.1 1 (by show 1 < 4; omega)
    have u2 := HX1.out.2.1 2 (by show 2 < 4; omega)
    have u3 := HX1.out.2.1 3 (by show 3 < 4; omega)
    go_wp2_with fail
    refine bodyPost_ret (results_tct rfl _ _ _ ⟨w.heap.size, 0, none⟩ (.agg #[.slice none 0 0, .bool false, .int .i64 0, .slice none 0 0]) rfl (by go_simp)) rfl ?_
    refine PropAns.no (v := outZ) HE.out (by omega) ?_
    exact Ans.still HH.out HCL.out HOU.out ((((HB1.out.setCell (p := ⟨w.heap.size, 0, none⟩) (Nat.le_refl _) _).setCell (p := ⟨w.heap.size, 1, none⟩) (Nat.le_refl _) _).setCell (p := ⟨w.heap.size, 2, none⟩) (Nat.le_refl _) _).setCell (p := ⟨w.heap.size, 3, none⟩) (Nat.le_refl _) _)
  case pos =>
  have d1 : (s.role != 2) = false := by simp [hrole]
  have HP1 : Hid (s.propE kd da = if (kd ≠ 1 ∧ kd ≠ 2) ∨ 2200 < da.size then 1 else if 400 ≤ s.l.length then 10 else if kd = 2 then s.may da else 0) := Lib.hid (by rw [HP0.out, if_neg (fun h => h hrole)])
  clear hrole HP0
  by_cases hk1 : kd = 1
  case pos =>
    have d2 : (kd != 1) = false := by simp [hk1]
    have d4 : (kd == 2) = false := by simp [hk1]
    have HK : Hid (¬ kd = 2) := Lib.hid (by omega)
    have HK1 : Hid (¬ (kd ≠ 1 ∧ kd ≠ 2)) := Lib.hid (fun h => h.1 hk1)
    clear hk1
    by_cases hsz : 2200 < da.size
    case pos =>
      have d5 : decide (2200 < (da.size : Int)) = true := decide_eq_true (by omega)
      have HE : Hid (s.propE kd da = 1) := Lib.hid (by rw [HP1.out, if_pos (.inr hsz)])
      clear hsz
      have t0 := HX1.out.1 0 _ rfl
      have t1 := HX1.out.1 1 _ rfl
      have t2 := HX1.out.1 2 _ rfl
      have t3 := HX1.out.1 3 _ rfl
      have u0 := HX1.out.2.1 0 (by show 0 < 4; omega)
      have u1 := HX1.out.2.1 1 (by show 1 < 4; omega)
      have u2 := HX1.out.2.1 2 (by show 2 < 4; omega)
      have u3 := HX1.out.2.1 3 (by show 3 < 4; omega)
      go_wp2_with fail
      refine bodyPost_ret (results_tct rfl _ _ _ ⟨w.heap.size, 0, none⟩ (.agg #[.slice none 0 0, .bool false, .int .i64 0, .slice none 0 0]) rfl (by go_simp)) rfl ?_
      refine PropAns.no (v := outZ) HE.out (by omega) ?_
      exact Ans.still HH.out HCL.out HOU.out ((((HB1.out.setCell (p := ⟨w.heap.size, 0, none⟩) (Nat.le_refl _) _).setCell (p := ⟨w.heap.size, 1, none⟩) (Nat.le_refl _) _).setCell (p := ⟨w.heap.size, 2, none⟩) (Nat.le_refl _) _).setCell (p := ⟨w.heap.size, 3, none⟩) (Nat.le_refl _) _)
    case neg =>
    have d5 : decide (2200 < (da.size : Int)) = false := decide_eq_false (by omega)
    have HP2 : Hid (s.propE kd da = if 400 ≤ s.l.length then 10 else if kd = 2 then s.may da else 0) := Lib.hid (by rw [HP1.out, if_neg (fun h => h.elim HK1.out hsz)])
    clear HP1 HK1
    have HLE := Lib.hid (lg_len (HR1.out.all .log))
    by_cases hln : 400 ≤ s.l.length
    case pos =>
      have d6 : decide (400 ≤ (s.l.length : Int)) = true := decide_eq_true (by omega)
      have HE : Hid (s.propE kd da = 10) := Lib.hid (by rw [HP2.out, if_pos hln])
      clear hln
      go_wp2_with fail
      with_reducible refine (HLE.out).mono ?_
      rintro e W2 ⟨rfl, hWb⟩
      have hWb := hWb.symm
      subst hWb
      have t0 := HX1.out.1 0 _ rfl
      have t1 := HX1.out.1 1 _ rfl
      have t2 := HX1.out.1 2 _ rfl
      have t3 := HX1.out.1 3 _ rfl
      have u0 := HX1.out.2.1 0 (by show 0 < 4; omega)
      have u1 := HX1.out.2.1 1 (by show 1 < 4; omega)
      have u2 := HX1.out.2.1 2 (by show 2 < 4; omega)
      have u3 := HX1.out.2.1 3 (by show 3 < 4; omega)
      go_wp2_with fail
      refine bodyPost_ret (results_tct rfl _ _ _ ⟨w.heap.size, 0, none⟩ (.agg #[.slice none 0 0, .bool false, .int .i64 0, .slice none 0 0]) rfl (by go_simp)) rfl ?_
      refine PropAns.no (v := outZ) HE.out (by omega) ?_
      exact Ans.still HH.out HCL.out HOU.out ((((HB1.out.setCell (p := ⟨w.heap.size, 0, none⟩) (Nat.le_refl _) _).setCell (p := ⟨w.heap.size, 1, none⟩) (Nat.le_refl _) _).setCell (p := ⟨w.heap.size, 2, none⟩) (Nat.le_refl _) _).setCell (p := ⟨w.heap.size, 3, none⟩) (Nat.le_refl _) _)
    case neg =>
    have d6 : decide (400 ≤ (s.l.length : Int)) = false := decide_eq_false (by omega)
    have HP3 : Hid (s.propE kd da = if kd = 2 then s.may da else 0) := Lib.hid (by rw [HP2.out, if_neg hln])
    clear hln HP2
    go_wp2_with fail
    with_reducible refine (HLE.out).mono ?_
    rintro e W2 ⟨rfl, hWb⟩
    have hWb := hWb.symm
    subst hWb
    clear HLE
    have HE : Hid (s.propE kd da = 0) := Lib.hid (by rw [HP3.out, if_neg HK.out])
    have HP9 : Hid (PS rb h h W1 W1) := Lib.hid (PS.refl _ _)
    have HA := Lib.hid (rf_add kd da HR1.out HBB.out hN (by omega))
    have HPB := Lib.hid (prop_pre HBB.out kd (da := da) (by omega) hM hN)
    have HBA := Lib.hid (HBB.out.add kd (da := da) (by omega) hM hN)
    have HLN : Hid (1 ≤ s.last + 1 ∧ s.last + 1 ≤ M + 1 + 1) := Lib.hid (by have h0 := (newOk_parts HBB.out.log).1; have h1 := HBB.out.lastE; have h2 := HBB.out.top; omega)
    clear c1 c10
    go_wp2_with fail
    with_reducible refine (HA.out).mono ?_
    rintro e W5 ⟨rfl, h5, hr5, hp5, hm5⟩
    have HRG := Lib.hid (rf_regard (s.last + 1) hr5 HBA.out HLN.out)
    have HP5 := Lib.hid (HP9.out.trans hp5)
    have HM5 := Lib.hid hm5
    clear hr5 hp5 hm5 HA
    generalize hnx : s.last + 1 = nx at *
    have HNX := Lib.hid hnx
    clear hnx
    go_wp2_with fail
    with_reducible refine (HRG.out).mono ?_
    rintro e W6 ⟨rfl, h6, hr6, hp6, hm6⟩
    have HCT := Lib.hid (rf_count hr6 HPB.out.1)
    have HP6 := Lib.hid (HP5.out.trans hp6)
    have HM6 := Lib.hid (hm6.trans HM5.out)
    clear hr6 hp6 hm6 HRG HP5
    have HCB := Lib.hid HPB.out.1.count
    have HCN := Lib.hid (count_nd ((s.add kd da).regard nx))
    generalize (s.add kd da).regard nx = z at *
    go_wp2_with fail
    with_reducible refine (HCT.out).mono ?_
    rintro e W7 ⟨rfl, h7, hr7, hp7, hm7⟩
    have HR7 := Lib.hid hr7
    have HP7 := Lib.hid (HP6.out.trans hp7)
    have HM7 := Lib.hid (hm7.mh.trans HM6.out)
    clear hr7 hp7 hm7 HCT HP6
    generalize z.count = a at *
    have hnd7 : a.out.nd.length = 0 := by rw [HCN.out, HPB.out.2]; exact HND.out
    have HN7 := Lib.hid hnd7
    clear hnd7
    have c1 : W7.cell? ⟨rb, 1, none⟩ = some (.int .i64 a.role) := HR7.out.cell 1 rfl
    by_cases hrl : a.role = 2
    case pos =>
      have d9 : (a.role == 2) = true := by simp [hrl]
      have HST : Hid (s.prop0 kd da = a.sendAll) := Lib.hid (by rw [HPP.out, if_pos hrl])
      clear hrl
      have HSA := Lib.hid (rf_sendAll HR7.out HCB.out (by rw [HM7.out, HMH.out]; omega) (by rw [HN7.out]; omega))
      have HSN := Lib.hid (sendAll_nd HCB.out)
      go_wp2_with fail
      with_reducible refine (HSA.out).mono ?_
      rintro e W8 ⟨rfl, h8, hr8, hp8, hm8⟩
      rw [← HST.out] at hr8
      have HP8 := Lib.hid (HP7.out.trans hp8)
      have HTL := Lib.hid (rf_tell hr8 HP8.out HCL.out (by rw [HST.out]; have := HSN.out; rw [HN7.out] at this; omega))
      clear hr8 hp8 hm8 HSA HSN
      have HXC := Lib.hid (HX1.out.keep HP8.out.1 (fun e => by have := (HH.out.lt e).2; omega))
      go_wp2_with fail
      with_reducible refine (HTL.out).mono ?_
      intro e W9 hA
      have HA9 := Lib.hid hA
      obtain ⟨p1, n1, k1, p2, n2, k2, rfl⟩ := hA.form
      have hx9 : CBox w.heap.size [.slice none 0 0, .bool false, .int .i64 0, .slice none 0 0] W9 := by
        obtain ⟨_, _, _, _, _, hp9, _⟩ := hA
        exact HX1.out.keep hp9.1 (fun e => by have := (HH.out.lt e).2; omega)
      have t0 := hx9.1 0 _ rfl
      have t1 := hx9.1 1 _ rfl
      have t2 := hx9.1 2 _ rfl
      have t3 := hx9.1 3 _ rfl
      have u0 := hx9.2.1 0 (by show 0 < 4; omega)
      have u1 := hx9.2.1 1 (by show 1 < 4; omega)
      have u2 := hx9.2.1 2 (by show 2 < 4; omega)
      have u3 := hx9.2.1 3 (by show 3 < 4; omega)
      clear hA hx9 HTL HXC
      go_wp2_with fail
      refine bodyPost_ret (results_tct rfl _ _ _ ⟨w.heap.size, 0, none⟩ (.agg #[.slice p1 n1 k1, .bool (s.prop0 kd da).out.hd, .int .i64 (s.prop0 kd da).out.fr, .slice p2 n2 k2]) rfl (by go_simp)) rfl ?_
      refine PropAns.yes' HE.out HNX.out ?_
      exact Ans.boxed HH.out HA9.out HB1.out HSZ.out ((((Fr.refl (fun k => k = w.heap.size) W9).setCell (p := ⟨w.heap.size, 0, none⟩) (fun _ => rfl) _).setCell (p := ⟨w.heap.size, 1, none⟩) (fun _ => rfl) _).setCell (p := ⟨w.heap.size, 2, none⟩) (fun _ => rfl) _ |>.setCell (p := ⟨w.heap.size, 3, none⟩) (fun _ => rfl) _)
    case neg =>
      have d9 : (a.role == 2) = false := by simp [hrl]
      have HST : Hid (s.prop0 kd da = a) := Lib.hid (by rw [HPP.out, if_neg hrl])
      clear hrl
      have hr8 := HR7.out
      rw [← HST.out] at hr8
      have HTL := Lib.hid (rf_tell hr8 HP7.out HCL.out (by rw [HST.out, HN7.out]; omega))
      clear hr8
      have HXC := Lib.hid (HX1.out.keep HP7.out.1 (fun e => by have := (HH.out.lt e).2; omega))
      go_wp2_with fail
      with_reducible refine (HTL.out).mono ?_
      intro e W9 hA
      have HA9 := Lib.hid hA
      obtain ⟨p1, n1, k1, p2, n2, k2, rfl⟩ := hA.form
      have hx9 : CBox w.heap.size [.slice none 0 0, .bool false, .int .i64 0, .slice none 0 0] W9 := by
        obtain ⟨_, _, _, _, _, hp9, _⟩ := hA
        exact HX1.out.keep hp9.1 (fun e => by have := (HH.out.lt e).2; omega)
      have t0 := hx9.1 0 _ rfl
      have t1 := hx9.1 1 _ rfl
      have t2 := hx9.1 2 _ rfl
      have t3 := hx9.1 3 _ rfl
      have u0 := hx9.2.1 0 (by show 0 < 4; omega)
      have u1 := hx9.2.1 1 (by show 1 < 4; omega)
      have u2 := hx9.2.1 2 (by show 2 < 4; omega)
      have u3 := hx9.2.1 3 (by show 3 < 4; omega)
      clear hA hx9 HTL HXC
      go_wp2_with fail
      refine bodyPost_ret (results_tct rfl _ _ _ ⟨w.heap.size, 0, none⟩ (.agg #[.slice p1 n1 k1, .bool (s.prop0 kd da).out.hd, .int .i64 (s.prop0 kd da).out.fr, .slice p2 n2 k2]) rfl (by go_simp)) rfl ?_
      refine PropAns.yes' HE.out HNX.out ?_
      exact Ans.boxed HH.out HA9.out HB1.out HSZ.out ((((Fr.refl (fun k => k = w.heap.size) W9).setCell (p := ⟨w.heap.size, 0, none⟩) (fun _ => rfl) _).setCell (p := ⟨w.heap.size, 1, none⟩) (fun _ => rfl) _).setCell (p := ⟨w.heap.size, 2, none⟩) (fun _ => rfl) _ |>.setCell (p := ⟨w.heap.size, 3, none⟩) (fun _ => rfl) _)
  case neg =>
  by_cases hk2 : kd = 2
  case pos =>
    have d2 : (kd != 1) = true := by simp [hk1]
    have d3 : (kd != 2) = false := by simp [hk2]
    have d4 : (kd == 2) = true := by simp [hk2]
    have HK : Hid (kd = 2) := Lib.hid hk2
    have HK1 : Hid (¬ (kd ≠ 1 ∧ kd ≠ 2)) := Lib.hid (fun h => h.2 hk2)
    clear hk1 hk2
    by_cases hsz : 2200 < da.size
    case pos =>
      have d5 : decide (2200 < (da.size : Int)) = true := decide_eq_true (by omega)
      have HE : Hid (s.propE kd da = 1) := Lib.hid (by rw [HP1.out, if_pos (.inr hsz)])
      clear hsz
      have t0 := HX1.out.1 0 _ rfl
      have t1 := HX1.out.1 1 _ rfl
      have t2 := HX1.out.1 2 _ rfl
      have t3 := HX1.out.1 3 _ rfl
      have u0 := HX1.out.2.1 0 (by show 0 < 4; omega)
      have u1 := HX1.out.2.1 1 (by show 1 < 4; omega)
      have u2 := HX1.out.2.1 2 (by show 2 < 4; omega)
      have u3 := HX1.out.2.1 3 (by show 3 < 4; omega)
      go_wp2_with fail
      refine bodyPost_ret (results_tct rfl _ _ _ ⟨w.heap.size, 0, none⟩ (.agg #[.slice none 0 0, .bool false, .int .i64 0, .slice none 0 0]) rfl (by go_simp)) rfl ?_
      refine PropAns.no (v := outZ) HE.out (by omega) ?_
      exact Ans.still HH.out HCL.out HOU.out ((((HB1.out.setCell (p := ⟨w.heap.size, 0, none⟩) (Nat.le_refl _) _).setCell (p := ⟨w.heap.size, 1, none⟩) (Nat.le_refl _) _).setCell (p := ⟨w.heap.size, 2, none⟩) (Nat.le_refl _) _).setCell (p := ⟨w.heap.size, 3, none⟩) (Nat.le_refl _) _)
    case neg =>
    have d5 : decide (2200 < (da.size : Int)) = false := decide_eq_false (by omega)
    have HP2 : Hid (s.propE kd da = if 400 ≤ s.l.length then 10 else if kd = 2 then s.may da else 0) := Lib.hid (by rw [HP1.out, if_neg (fun h => h.elim HK1.out hsz)])
    clear HP1 HK1
    have HLE := Lib.hid (lg_len (HR1.out.all .log))
    by_cases hln : 400 ≤ s.l.length
    case pos =>
      have d6 : decide (400 ≤ (s.l.length : Int)) = true := decide_eq_true (by omega)
      have HE : Hid (s.propE kd da = 10) := Lib.hid (by rw [HP2.out, if_pos hln])
      clear hln
      go_wp2_with fail
      with_reducible refine (HLE.out).mono ?_
      rintro e W2 ⟨rfl, hWb⟩
      have hWb := hWb.symm
      subst hWb
      have t0 := HX1.out.1 0 _ rfl
      have t1 := HX1.out.1 1 _ rfl
      have t2 := HX1.out.1 2 _ rfl
      have t3 := HX1.out.1 3 _ rfl
      have u0 := HX1.out.2.1 0 (by show 0 < 4; omega)
      have u1 := HX1.out.2.1 1 (by show 1 < 4; omega)
      have u2 := HX1.out.2.1 2 (by show 2 < 4; omega)
      have u3 := HX1.out.2.1 3 (by show 3 < 4; omega)
      go_wp2_with fail
      refine bodyPost_ret (results_tct rfl _ _ _ ⟨w.heap.size, 0, none⟩ (.agg #[.slice none 0 0, .bool false, .int .i64 0, .slice none 0 0]) rfl (by go_simp)) rfl ?_
      refine PropAns.no (v := outZ) HE.out (by omega) ?_
      exact Ans.still HH.out HCL.out HOU.out ((((HB1.out.setCell (p := ⟨w.heap.size, 0, none⟩) (Nat.le_refl _) _).setCell (p := ⟨w.heap.size, 1, none⟩) (Nat.le_refl _) _).setCell (p := ⟨w.heap.size, 2, none⟩) (Nat.le_refl _) _).setCell (p := ⟨w.heap.size, 3, none⟩) (Nat.le_refl _) _)
    case neg =>
    have d6 : decide (400 ≤ (s.l.length : Int)) = false := decide_eq_false (by omega)
    have HP3 : Hid (s.propE kd da = if kd = 2 then s.may da else 0) := Lib.hid (by rw [HP2.out, if_neg hln])
    clear hln HP2
    go_wp2_with fail
    with_reducible refine (HLE.out).mono ?_
    rintro e W2 ⟨rfl, hWb⟩
    have hWb := hWb.symm
    subst hWb
    clear HLE
    have HP4 : Hid (s.propE kd da = s.may da) := Lib.hid (by rw [HP3.out, if_pos HK.out])
    clear HP3
    have HMY := Lib.hid (rf_may da HR1.out HBB.out (by omega))
    rw [← HP4.out] at HMY
    go_wp2_with fail
    with_reducible refine (HMY.out).mono ?_
    rintro e W4 ⟨rfl, hb4⟩
    have HB4 := Lib.hid hb4
    have HBF := Lib.hid (HB1.out.trans (hb4.mono HB1.out.size))
    have HX4 := Lib.hid (HX1.out.below hb4)
    have HR4 := Lib.hid (HR1.out.below hb4)
    clear hb4 HMY
    by_cases hmy : s.propE kd da = 0
    case neg =>
      have d7 : (s.propE kd da != 0) = true := by simp [hmy]
      have HZ := Lib.hid hmy
      clear hmy
      generalize hpe : s.propE kd da = pe at *
      have HE : Hid (s.propE kd da = pe) := Lib.hid hpe
      clear hpe c1 c10
      have t0 := HX4.out.1 0 _ rfl
      have t1 := HX4.out.1 1 _ rfl
      have t2 := HX4.out.1 2 _ rfl
      have t3 := HX4.out.1 3 _ rfl
      have u0 := HX4.out.2.1 0 (by show 0 < 4; omega)
      have u1 := HX4.out.2.1 1 (by show 1 < 4; omega)
      have u2 := HX4.out.2.1 2 (by show 2 < 4; omega)
      have u3 := HX4.out.2.1 3 (by show 3 < 4; omega)
      go_wp2_with fail
      refine bodyPost_ret (results_tct rfl _ _ _ ⟨w.heap.size, 0, none⟩ (.agg #[.slice none 0 0, .bool false, .int .i64 0, .slice none 0 0]) rfl (by go_simp)) rfl ?_
      refine PropAns.no (v := outZ) HE.out HZ.out ?_
      exact Ans.still HH.out HCL.out HOU.out ((((HBF.out.setCell (p := ⟨w.heap.size, 0, none⟩) (Nat.le_refl _) _).setCell (p := ⟨w.heap.size, 1, none⟩) (Nat.le_refl _) _).setCell (p := ⟨w.heap.size, 2, none⟩) (Nat.le_refl _) _).setCell (p := ⟨w.heap.size, 3, none⟩) (Nat.le_refl _) _)
    case pos =>
    have d7 : (s.propE kd da != 0) = false := by simp [hmy]
    have HE := Lib.hid hmy
    have HP9 : Hid (PS rb h h W1 W4) := Lib.hid (PS.still HB4.out)
    rw [hmy]
    clear hmy
    have c1 : W4.cell? ⟨rb, 1, none⟩ = some (.int .i64 s.role) := HR4.out.cell 1 rfl
    have HA := Lib.hid (rf_add kd da HR4.out HBB.out hN (by omega))
    have HPB := Lib.hid (prop_pre HBB.out kd (da := da) (by omega) hM hN)
    have HBA := Lib.hid (HBB.out.add kd (da := da) (by omega) hM hN)
    have HLN : Hid (1 ≤ s.last + 1 ∧ s.last + 1 ≤ M + 1 + 1) := Lib.hid (by have h0 := (newOk_parts HBB.out.log).1; have h1 := HBB.out.lastE; have h2 := HBB.out.top; omega)
    clear c1 c10
    go_wp2_with fail
    with_reducible refine (HA.out).mono ?_
    rintro e W5 ⟨rfl, h5, hr5, hp5, hm5⟩
    have HRG := Lib.hid (rf_regard (s.last + 1) hr5 HBA.out HLN.out)
    have HP5 := Lib.hid (HP9.out.trans hp5)
    have HM5 := Lib.hid hm5
    clear hr5 hp5 hm5 HA
    generalize hnx : s.last + 1 = nx at *
    have HNX := Lib.hid hnx
    clear hnx
    go_wp2_with fail
    with_reducible refine (HRG.out).mono ?_
    rintro e W6 ⟨rfl, h6, hr6, hp6, hm6⟩
    have HCT := Lib.hid (rf_count hr6 HPB.out.1)
    have HP6 := Lib.hid (HP5.out.trans hp6)
    have HM6 := Lib.hid (hm6.trans HM5.out)
    clear hr6 hp6 hm6 HRG HP5
    have HCB := Lib.hid HPB.out.1.count
    have HCN := Lib.hid (count_nd ((s.add kd da).regard nx))
    generalize (s.add kd da).regard nx = z at *
    go_wp2_with fail
    with_reducible refine (HCT.out).mono ?_
    rintro e W7 ⟨rfl, h7, hr7, hp7, hm7⟩
    have HR7 := Lib.hid hr7
    have HP7 := Lib.hid (HP6.out.trans hp7)
    have HM7 := Lib.hid (hm7.mh.trans HM6.out)
    clear hr7 hp7 hm7 HCT HP6
    generalize z.count = a at *
    have hnd7 : a.out.nd.length = 0 := by rw [HCN.out, HPB.out.2]; exact HND.out
    have HN7 := Lib.hid hnd7
    clear hnd7
    have c1 : W7.cell? ⟨rb, 1, none⟩ = some (.int .i64 a.role) := HR7.out.cell 1 rfl
    by_cases hrl : a.role = 2
    case pos =>
      have d9 : (a.role == 2) = true := by simp [hrl]
      have HST : Hid (s.prop0 kd da = a.sendAll) := Lib.hid (by rw [HPP.out, if_pos hrl])
      clear hrl
      have HSA := Lib.hid (rf_sendAll HR7.out HCB.out (by rw [HM7.out, HMH.out]; omega) (by rw [HN7.out]; omega))
      have HSN := Lib.hid (sendAll_nd HCB.out)
      go_wp2_with fail
      with_reducible refine (HSA.out).mono ?_
      rintro e W8 ⟨rfl, h8, hr8, hp8, hm8⟩
      rw [← HST.out] at hr8
      have HP8 := Lib.hid (HP7.out.trans hp8)
      have HTL := Lib.hid (rf_tell hr8 HP8.out HCL.out (by rw [HST.out]; have := HSN.out; rw [HN7.out] at this; omega))
      clear hr8 hp8 hm8 HSA HSN
      have HXC := Lib.hid (HX1.out.keep HP8.out.1 (fun e => by have := (HH.out.lt e).2; omega))
      go_wp2_with fail
      with_reducible refine (HTL.out).mono ?_
      intro e W9 hA
      have HA9 := Lib.hid hA
      obtain ⟨p1, n1, k1, p2, n2, k2, rfl⟩ := hA.form
      have hx9 : CBox w.heap.size [.slice none 0 0, .bool false, .int .i64 0, .slice none 0 0] W9 := by
        obtain ⟨_, _, _, _, _, hp9, _⟩ := hA
        exact HX1.out.keep hp9.1 (fun e => by have := (HH.out.lt e).2; omega)
      have t0 := hx9.1 0 _ rfl
      have t1 := hx9.1 1 _ rfl
      have t2 := hx9.1 2 _ rfl
      have t3 := hx9.1 3 _ rfl
      have u0 := hx9.2.1 0 (by show 0 < 4; omega)
      have u1 := hx9.2.1 1 (by show 1 < 4; omega)
      have u2 := hx9.2.1 2 (by show 2 < 4; omega)
      have u3 := hx9.2.1 3 (by show 3 < 4; omega)
      clear hA hx9 HTL HXC
      go_wp2_with fail
      refine bodyPost_ret (results_tct rfl _ _ _ ⟨w.heap.size, 0, none⟩ (.agg #[.slice p1 n1 k1, .bool (s.prop0 kd da).out.hd, .int .i64 (s.prop0 kd da).out.fr, .slice p2 n2 k2]) rfl (by go_simp)) rfl ?_
      refine PropAns.yes' HE.out HNX.out ?_
      exact Ans.boxed HH.out HA9.out HB1.out HSZ.out ((((Fr.refl (fun k => k = w.heap.size) W9).setCell (p := ⟨w.heap.size, 0, none⟩) (fun _ => rfl) _).setCell (p := ⟨w.heap.size, 1, none⟩) (fun _ => rfl) _).setCell (p := ⟨w.heap.size, 2, none⟩) (fun _ => rfl) _ |>.setCell (p := ⟨w.heap.size, 3, none⟩) (fun _ => rfl) _)
    case neg =>
      have d9 : (a.role == 2) = false := by simp [hrl]
      have HST : Hid (s.prop0 kd da = a) := Lib.hid (by rw [HPP.out, if_neg hrl])
      clear hrl
      have hr8 := HR7.out
      rw [← HST.out] at hr8
      have HTL := Lib.hid (rf_tell hr8 HP7.out HCL.out (by rw [HST.out, HN7.out]; omega))
      clear hr8
      have HXC := Lib.hid (HX1.out.keep HP7.out.1 (fun e => by have := (HH.out.lt e).2; omega))
      go_wp2_with fail
      with_reducible refine (HTL.out).mono ?_
      intro e W9 hA
      have HA9 := Lib.hid hA
      obtain ⟨p1, n1, k1, p2, n2, k2, rfl⟩ := hA.form
      have hx9 : CBox w.heap.size [.slice none 0 0, .bool false, .int .i64 0, .slice none 0 0] W9 := by
        obtain ⟨_, _, _, _, _, hp9, _⟩ := hA
        exact HX1.out.keep hp9.1 (fun e => by have := (HH.out.lt e).2; omega)
      have t0 := hx9.1 0 _ rfl
      have t1 := hx9.1 1 _ rfl
      have t2 := hx9.1 2 _ rfl
      have t3 := hx9.1 3 _ rfl
      have u0 := hx9.2.1 0 (by show 0 < 4; omega)
      have u1 := hx9.2.1 1 (by show 1 < 4; omega)
      have u2 := hx9.2.1 2 (by show 2 < 4; omega)
      have u3 := hx9.2.1 3 (by show 3 < 4; omega)
      clear hA hx9 HTL HXC
      go_wp2_with fail
      refine bodyPost_ret (results_tct rfl _ _ _ ⟨w.heap.size, 0, none⟩ (.agg #[.slice p1 n1 k1, .bool (s.prop0 kd da).out.hd, .int .i64 (s.prop0 kd da).out.fr, .slice p2 n2 k2]) rfl (by go_simp)) rfl ?_
      refine PropAns.yes' HE.out HNX.out ?_
      exact Ans.boxed HH.out HA9.out HB1.out HSZ.out ((((Fr.refl (fun k => k = w.heap.size) W9).setCell (p := ⟨w.heap.size, 0, none⟩) (fun _ => rfl) _).setCell (p := ⟨w.heap.size, 1, none⟩) (fun _ => rfl) _).setCell (p := ⟨w.heap.size, 2, none⟩) (fun _ => rfl) _ |>.setCell (p := ⟨w.heap.size, 3, none⟩) (fun _ => rfl) _)
  case neg =>
    have d2 : (kd != 1) = true := by simp [hk1]
    have d3 : (kd != 2) = true := by simp [hk2]
    have HE : Hid (s.propE kd da = 1) := Lib.hid (by rw [HP1.out, if_pos (.inl ⟨hk1, hk2⟩)])
    clear hk1 hk2
    have t0 := HX1.out.1 0 _ rfl
    have t1 := HX1.out.1 1 _ rfl
    have t2 := HX1.out.1 2 _ rfl
    have t3 := HX1.out.1 3 _ rfl
    have u0 := HX1.out.2.1 0 (by show 0 < 4; omega)
    have u1 := HX1.out.2.1 1 (by show 1 < 4; omega)
    have u2 := HX1.out.2.1 2 (by show 2 < 4; omega)
    have u3 := HX1.out.2.1 3 (by show 3 < 4; omega)
    go_wp2_with fail
    refine bodyPost_ret (results_tct rfl _ _ _ ⟨w.heap.size, 0, none⟩ (.agg #[.slice none 0 0, .bool false, .int .i64 0, .slice none 0 0]) rfl (by go_simp)) rfl ?_
    refine PropAns.no (v := outZ) HE.out (by omega) ?_
    exact Ans.still HH.out HCL.out HOU.out ((((HB1.out.setCell (p := ⟨w.heap.size, 0, none⟩) (Nat.le_refl _) _).setCell (p := ⟨w.heap.size, 1, none⟩) (Nat.le_refl _) _).setCell (p := ⟨w.heap.size, 2, none⟩) (Nat.le_refl _) _).setCell (p := ⟨w.heap.size, 3, none⟩) (Nat.le_refl _) _)
end
end RF
end Go.Proofs.YtaodldagmmephaaGreat

