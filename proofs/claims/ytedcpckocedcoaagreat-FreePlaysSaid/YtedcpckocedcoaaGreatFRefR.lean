/- arboretumref1.Free: Release. -/
import Derived.Test.YtedcpckocedcoaaGreatFRefG
namespace Go.Proofs.YtedcpckocedcoaaGreat
open Go.RowKit

/-- What goes as the pins P are. -/
def goP (P : List Int) (x : Int × Int) : Bool := decide (P.length = 0) || decide (x.1 ≤ HL.el P 0)
def relL (L : List Int) (P : List Int) (Ws : List (Int × Int)) : List Int := (Ws.filter (goP P)).foldl (fun l x => CL.ins l x.2) L
theorem relL_length (P : List Int) : ∀ (Ws : List (Int × Int)) (L : List Int), (relL L P Ws).length = L.length + (Ws.filter (goP P)).length := by
  intro Ws L
  unfold relL
  generalize Ws.filter (goP P) = G
  induction G generalizing L with
  | nil => simp
  | cons x G ih => rw [List.foldl_cons, ih, CL.ins_length, List.length_cons]; omega
theorem el_takeW {l : List (Int × Int)} {k : Nat} (h : k < l.length) : l.take (k + 1) = l.take k ++ [HL.el l k] := by
  rw [List.take_add_one, List.getElem?_eq_getElem h]
  congr 1
  unfold HL.el
  rw [List.getD_eq_getElem?_getD, List.getElem?_eq_getElem h]
  rfl

/-- As Release goes on. -/
structure RelS (rb base : Nat) (lv wv pv : Value) (L : List Int) (Ws : List (Int × Int)) (P : List Int) (w : World) (k : Nat) (kv : Value) (wr : World) : Prop where
  i : ∃ lv', RFI rb base lv' wv pv (relL L P (Ws.take k)) Ws P wr ∧ ∀ g, lv'.ownBlock = some g → lv.ownBlock = some g ∨ w.heap.size ≤ g
  f : Fr (fun j => j = rb) w wr
  rl : rb < w.heap.size
  wl : ∀ g, wv.ownBlock = some g → g < w.heap.size
  o : wr.ownsRow w.heap.size 83 2 kv ((Ws.take k).filter fun x => !goP P x).length (rowOf wc2 ((Ws.take k).filter fun x => !goP P x))

section
variable {rb base : Nat} {lv wv pv kv : Value} {L : List Int} {Ws : List (Int × Int)} {P : List Int} {w wr : World} {k : Nat}
theorem RelS.below {W : World} (h : RelS rb base lv wv pv L Ws P w k kv wr) (hb : Below wr.heap.size wr W) : RelS rb base lv wv pv L Ws P w k kv W := by
  obtain ⟨lv', hI, hl⟩ := h.i
  exact ⟨⟨lv', hI.below hb, hl⟩, Fr.trans h.f (Fr.of_all (S := fun _ => False) hb) (fun _ e _ => e.elim), h.rl, h.wl, (Fr.of_all (S := fun _ => False) hb).owns h.o (fun _ _ e => e)⟩
theorem RelS.stay {W : World} {kv' : Value} {ob : Obj} (h : RelS rb base lv wv pv L Ws P w k kv wr) (hk : k < Ws.length) (hp : goP P (HL.el Ws k) = false) (ho : W.ownsRow w.heap.size 83 2 kv' (((Ws.take k).filter fun x => !goP P x).length + 1) (rowOf wc2 ((Ws.take k).filter fun x => !goP P x) ++ rowOf wc2 [HL.el Ws k])) (hg : (wr.alloc ob).grownBy W kv.ownBlock) :
    RelS rb base lv wv pv L Ws P w (k + 1) kv' W := by
  obtain ⟨lv', hI, hl⟩ := h.i
  have hF : Fr (fun j => kv.ownBlock = some j) wr W := Fr.trans ((Fr.refl (fun j => kv.ownBlock = some j) wr).alloc ob) (Fr.of_grown (S := fun j => kv.ownBlock = some j) hg (fun i _ e => e)) (fun i hi _ => hi)
  have hno : ∀ j, rfF rb lv' wv pv j → ¬ kv.ownBlock = some j := fun j hj e => by
    have h1 := (h.o.lt j e).1
    rcases hj with e2 | e2 | e2 | e2
    · have := h.rl; omega
    · exact owns_apart h.o hI.lo (by decide) e e2
    · have := h.wl j e2; omega
    · exact owns_apart h.o hI.po (by decide) e e2
  refine ⟨⟨lv', ?_, hl⟩, Fr.trans h.f hF (fun i hi hlt => by have := (h.o.lt i hi).1; omega), h.rl, h.wl, ?_⟩
  · rw [el_takeW hk]
    unfold relL
    rw [List.filter_append, List.filter_cons_of_neg (by simp [hp]), List.filter_nil, List.append_nil]
    exact hI.keep hF hno
  · rw [el_takeW hk, List.filter_append, List.filter_cons_of_pos (by simp [hp]), List.length_append, rowOf_append]
    exact ho

theorem RelS.go {W : World} {u : Value} {n : Nat} (h : RelS rb base lv wv pv L Ws P w k kv wr) (hk : k < Ws.length) (hp : goP P (HL.el Ws k) = true) (hb : Below wr.heap.size wr W) (ho : W.ownsRow wr.heap.size 3 1 u n (rowOf ncells (CL.ins (relL L P (Ws.take k)) (HL.el Ws k).2))) (hn : (CL.ins (relL L P (Ws.take k)) (HL.el Ws k).2).length = n) :
    RelS rb base lv wv pv L Ws P w (k + 1) kv (W.setCell ⟨rb, 0, none⟩ u) := by
  obtain ⟨lv', hI, hl⟩ := h.i
  obtain ⟨e1, e2, e3⟩ := hI.set0 hb ho hn
  have er : relL L P (Ws.take (k + 1)) = CL.ins (relL L P (Ws.take k)) (HL.el Ws k).2 := by
    rw [el_takeW hk]
    unfold relL
    rw [List.filter_append, List.filter_cons_of_pos hp, List.filter_nil, List.foldl_append]
    rfl
  refine ⟨⟨u, by rw [er]; exact e1, fun g hg => .inr (Nat.le_trans h.f.size (e3 g hg))⟩, Fr.trans h.f e2 (fun i hi _ => hi), h.rl, h.wl, ?_⟩
  rw [el_takeW hk, List.filter_append, List.filter_cons_of_neg (by simp [hp]), List.filter_nil, List.append_nil]
  exact e2.owns h.o (fun g hg e => by have := (h.o.lt g hg).1; have := h.rl; omega)
end

/-- The cells of a round. -/
def RelC (rb g k : Nat) (a b c : Value) (y1 y2 : Int) (V : World) : Prop :=
  V.cell? ⟨rb, 0, none⟩ = some a ∧ V.cell? ⟨rb, 1, none⟩ = some b ∧ V.cell? ⟨rb, 2, none⟩ = some c ∧ V.cell? ⟨g, k * 2, none⟩ = some (.int .i64 y1) ∧ V.cell? ⟨g, k * 2 + 1, none⟩ = some (.int .i64 y2) ∧ V.frozen? ⟨rb, 0, none⟩ = false

/-- What Release leaves. -/
def RelF (rb base : Nat) (lv pv : Value) (L : List Int) (Ws : List (Int × Int)) (P : List Int) (w : World) (e : Ending) (w' : World) : Prop :=
  ∃ lv' wv', e = .returned (.int .i64 (Ws.filter (goP P)).length) ∧ RFI rb base lv' wv' pv (relL L P Ws) (Ws.filter fun x => !goP P x) P w' ∧ Fr (fun j => j = rb) w w' ∧ (∀ g, lv'.ownBlock = some g → lv.ownBlock = some g ∨ w.heap.size ≤ g) ∧ ∀ g, wv'.ownBlock = some g → w.heap.size ≤ g
theorem RelS.done {rb base : Nat} {lv wv pv kv : Value} {L : List Int} {Ws : List (Int × Int)} {P : List Int} {w wr : World} (h : RelS rb base lv wv pv L Ws P w Ws.length kv wr) : RelF rb base lv pv L Ws P w (.returned (.int .i64 (Ws.filter (goP P)).length)) (wr.setCell ⟨rb, 1, none⟩ kv) := by
  obtain ⟨lv', hI, hl⟩ := h.i
  have ho := h.o
  rw [List.take_length] at hI ho
  have hs := h.f.size
  have hF2 : Fr (fun k => k = rb) wr (wr.setCell ⟨rb, 1, none⟩ kv) := (Fr.refl (fun k => k = rb) wr).setCell (p := ⟨rb, 1, none⟩) (fun _ => rfl) _
  refine ⟨lv', kv, rfl, ?_, Fr.trans h.f hF2 (fun i hi _ => hi), hl, fun g hg => (ho.lt g hg).1⟩
  have hrb : rb < wr.heap.size := cell_lt hI.c0
  have hoth := Others.set rb 1 wr kv
  have hn : ∀ g, kv.ownBlock = some g → g ≠ rb := fun g hg e => by have := (ho.lt g hg).1; have := h.rl; omega
  exact ⟨(hoth 0 (by omega)).1.trans hI.c0, cell_set_same _ _ _ _ hI.c1, (hoth 2 (by omega)).1.trans hI.c2, by rw [frozen_set]; exact hI.f0, by rw [frozen_set]; exact hI.f1, by rw [frozen_set]; exact hI.f2, hF2.owns hI.lo (fun g hg e => hI.ln (by rw [hg, e])), owns_low (hF2.owns ho (fun g hg => hn g hg)) (by have := hI.bb; have := h.rl; omega), hF2.owns hI.po (fun g hg e => hI.pn (by rw [hg, e])), hI.ln, fun e => hn rb e rfl, hI.pn, Nat.le_trans hI.bs hF2.size, hI.bb⟩

set_option maxHeartbeats 8000000 in
set_option maxRecDepth 100000 in
theorem rf_release (rb base : Nat) (lv wv pv : Value) (L : List Int) (Ws : List (Int × Int)) (P : List Int) (w : World) (h : RFI rb base lv wv pv L Ws P w) (hn : L.length + Ws.length ≤ 10000) :
    Calls Tryz.prog 21 #[.pointer (some ⟨rb, 0, none⟩)] w (RelF rb base lv pv L Ws P w) := by
  have hwv : ∃ wp wc, wv = .slice wp Ws.length wc := owns_slice h.wo
  have hpv : ∃ pp pc, pv = .slice pp P.length pc := owns_slice h.po
  obtain ⟨wp', wc, rfl⟩ := hwv
  obtain ⟨pp, pc, rfl⟩ := hpv
  have HST : Hid (RelS rb base lv (.slice wp' Ws.length wc) (.slice pp P.length pc) L Ws P w 0 (.slice none 0 0) w) := Lib.hid ⟨⟨lv, by simpa [relL] using h, fun _ hg => .inl hg⟩, Fr.refl _ _, cell_lt h.c0, fun g hg => (h.wo.lt g hg).2, World.ownsRow_nil _ _ _ _⟩
  clear h
  go_enter Tryz.func21, Tryz.ntmps21
  go_wp2
  go_loopw [3, 4, 5] (fun kv cv iv wr => ∃ k : Nat, k ≤ Ws.length ∧ iv = .int .i64 k ∧ cv = .int .i64 ((Ws.take k).filter (goP P)).length ∧ Hid (RelS rb base lv (.slice wp' Ws.length wc) (.slice pp P.length pc) L Ws P w k kv wr)) (fun _ _ iv _ => Ws.length - (intOf iv).toNat)
  case atStart => exact ⟨0, Nat.zero_le _, rfl, rfl, HST⟩
  case round =>
    clear HST
    obtain ⟨k, hk, rfl, rfl, hR⟩ := hrel
    obtain ⟨op, oc, hov⟩ := owns_slice hR.out.o
    subst hov
    by_cases hlt : k < Ws.length
    · have hltI : (k : Int) < (Ws.length : Int) := by omega
      obtain ⟨lv', hI, hl'⟩ := hR.out.i
      obtain ⟨q, d, hlv⟩ := owns_slice hI.lo
      subst hlv
      obtain ⟨g, hwp⟩ := (by
        rcases hI.wo.2 with ⟨_, h1⟩ | ⟨g, cap, cur, e, _⟩
        · omega
        · injection e with e1 _ _
          exact ⟨g, e1⟩ : ∃ g, wp' = some ⟨g, 0, none⟩)
      subst hwp
      have HI := Lib.hid hI
      have c1 := hI.c1
      have HCA : Hid (∀ V, Below wr.heap.size wr V → RelC rb g k (.slice q (relL L P (Ws.take k)).length d) (.slice (some ⟨g, 0, none⟩) Ws.length wc) (.slice pp P.length pc) (HL.el Ws k).1 (HL.el Ws k).2 V) := Lib.hid (fun V hV => by
        have h2 := HI.out.below hV
        obtain ⟨y1, y2⟩ := wait_cells h2.wo rfl k hlt
        exact ⟨h2.c0, h2.c1, h2.c2, y1, y2, h2.f0⟩)
      have HCW : Hid (∀ q2 : Later wr, RelC rb g k (.slice q (relL L P (Ws.take k)).length d) (.slice (some ⟨g, 0, none⟩) Ws.length wc) (.slice pp P.length pc) (HL.el Ws k).1 (HL.el Ws k).2 q2.1) := Lib.hid (fun q2 => HCA.out q2.1 q2.2)
      have e0 := fun q2 => (HCW.out q2).1
      have e1 := fun q2 => (HCW.out q2).2.1
      have e2 := fun q2 => (HCW.out q2).2.2.1
      have e3 := fun q2 => (HCW.out q2).2.2.2.1
      have e4 := fun q2 => (HCW.out q2).2.2.2.2.1
      have HLEN : Hid ((relL L P (Ws.take k)).length ≤ 10000) := Lib.hid (by
        have h1 := relL_length P (Ws.take k) L
        have h2 := List.length_filter_le (goP P) (Ws.take k)
        rw [List.length_take] at h2
        omega)
      have hcn : ((Ws.take k).filter (goP P)).length ≤ 10000 := by
        have h2 := List.length_filter_le (goP P) (Ws.take k)
        rw [List.length_take] at h2
        omega
      by_cases hp0 : P.length = 0
      · have HGO : Hid (goP P (HL.el Ws k) = true) := Lib.hid (by simp [goP, hp0])
        have dp : decide ((0 : Int) < (P.length : Int)) = false := decide_eq_false (by omega)
        have dp2 : decide (0 < P.length) = false := decide_eq_false (by omega)
        go_wp2_with fail
        refine wp_region_later (by kernel_rfl) (by kernel_rfl) ?_
        repeat (go_big_quiet_step (fail))
        refine wpQuiet_nil ?_
        intro W1 hw'
        obtain ⟨⟨W, hq⟩, hw''⟩ := hw'
        have hw3 : W1 = W := hw''
        subst hw3
        have HRW := Lib.hid (hR.out.below hq)
        have HCV : Hid (∀ q2 : Later W1, RelC rb g k (.slice q (relL L P (Ws.take k)).length d) (.slice (some ⟨g, 0, none⟩) Ws.length wc) (.slice pp P.length pc) (HL.el Ws k).1 (HL.el Ws k).2 q2.1) := Lib.hid (fun q2 => HCA.out q2.1 (hq.trans (q2.2.mono hq.size)))
        have HIW := Lib.hid (HI.out.below hq)
        have HPUT : Hid (∀ V, Below W1.heap.size W1 V → Calls Tryz.prog 17 #[.slice q (relL L P (Ws.take k)).length d, .int .i64 (HL.el Ws k).2] V fun e w' => ∃ u, e = .returned u ∧ w'.ownsRow V.heap.size 3 1 u ((relL L P (Ws.take k)).length + 1) (rowOf ncells (CL.ins (relL L P (Ws.take k)) (HL.el Ws k).2)) ∧ Below V.heap.size V w') := Lib.hid (fun V hV => ref_put_any (HL.el Ws k).2 ((HIW.out.below hV).lo) rfl HLEN.out)
        have HSET : Hid (∀ (V : World) (u : Value), Below W1.heap.size W1 V → V.ownsRow W1.heap.size 3 1 u ((relL L P (Ws.take k)).length + 1) (rowOf ncells (CL.ins (relL L P (Ws.take k)) (HL.el Ws k).2)) → RelS rb base lv (.slice (some ⟨g, 0, none⟩) Ws.length wc) (.slice pp P.length pc) L Ws P w (k + 1) (.slice op ((Ws.take k).filter fun x => !goP P x).length oc) (V.setCell ⟨rb, 0, none⟩ u)) := Lib.hid (fun V u hV ho => HRW.out.go hlt HGO.out hV ho (by rw [CL.ins_length]))
        have HCN : Hid ((((Ws.take (k + 1)).filter (goP P)).length : Int) = (((Ws.take k).filter (goP P)).length : Int) + 1) := Lib.hid (by rw [el_takeW hlt, List.filter_append, List.filter_cons_of_pos HGO.out, List.length_append]; simp)
        have hd0 : Below W1.heap.size W1 W1.drew := ((Fr.refl (fun _ => False) W1).drew).below (Nat.le_refl _) (fun _ h => h.elim)
        have HBd := Lib.hid hd0
        clear hd0 hR HRW HIW HI hq HGO c1 hI hl' e0 e1 e2 e3 e4 hw'' HCW HCA dp dp2
        generalize (HL.el Ws k).2 = x2 at *
        generalize (HL.el Ws k).1 = x1 at *
        have e0 := fun q2 => (HCV.out q2).1
        have e1 := fun q2 => (HCV.out q2).2.1
        have e4 := fun q2 => (HCV.out q2).2.2.2.2.1
        go_wp2_with fail
        refine Mix.region_mix (n := 16) (m := 4) (fun V => ∃ q : Later W1, V = q.1) [0, 1, 2, 3, 4, 5, 6, 7, 8, 9, 10, 11, 12] (by kernel_rfl) rfl rfl (by kernel_rfl) (by kernel_rfl) ⟨⟨W1.drew, HBd.out⟩, rfl⟩ ?_
        repeat (refine Mix.picks_step rfl ?_; go_big_quiet_step (fail))
        refine Mix.picks_nil ?_
        intro inv
        refine sink_one (i := 13) (by kernel_rfl) rfl (by omega) inv (fun K hK => ?_)
        have HKK := Lib.hid hK
        clear hK
        go_simp
        go_at_call 17
        refine (HPUT.out _ HBd.out).mono ?_
        rintro e W2 ⟨u, rfl, ho, hb2⟩
        obtain ⟨p5, c5, hv5⟩ := owns_slice ho
        subst hv5
        have HB2 : Hid (Below W1.heap.size W1 W2) := Lib.hid (HBd.out.trans hb2)
        have HN := Lib.hid (HSET.out W2 _ HB2.out ho)
        clear ho hb2
        refine HKK.out _ _ ⟨⟨_, HB2.out⟩, rfl⟩ ?_
        clear HKK inv
        intro hS inv
        (try simp only [Act.put]); (try simp only [List.setIfInBounds_toArray]); (try simp only [List.set_cons_succ]); (try simp only [List.set_cons_zero])
        refine sink_one (i := 14) (by kernel_rfl) rfl (by omega) inv (fun K hK => ?_)
        have HKK := Lib.hid hK
        clear hK
        go_simp
        refine HKK.out _ _ ⟨⟨_, HB2.out⟩, rfl⟩ ?_
        clear HKK inv
        intro hS inv
        (try simp only [Act.put]); (try simp only [List.setIfInBounds_toArray]); (try simp only [List.set_cons_succ]); (try simp only [List.set_cons_zero])
        refine sink_one (i := 15) (by kernel_rfl) rfl (by omega) inv (fun K hK => ?_)
        have HKK := Lib.hid hK
        clear hK
        go_simp
        refine HKK.out _ _ ⟨⟨_, HB2.out⟩, rfl⟩ ?_
        clear HKK inv
        intro hS inv
        (try simp only [Act.put]); (try simp only [List.setIfInBounds_toArray]); (try simp only [List.set_cons_succ]); (try simp only [List.set_cons_zero])
        refine sink_last (by kernel_rfl) rfl (by kernel_rfl) (fun K hK => ?_)
        have HKK := Lib.hid hK
        clear hK
        have cq5 := (HCV.out ⟨W2, HB2.out⟩).1
        have fq5 := (HCV.out ⟨W2, HB2.out⟩).2.2.2.2.2
        go_simp
        refine HKK.out _ _ ⟨rfl, ?_⟩
        clear HKK inv hS cq5 fq5 e0 e1 e4
        go_wp2
        go_roundw
        case rel => exact ⟨k + 1, by omega, by go_num, by rw [HCN.out], HN⟩
        case measure => simp [intOf]; omega
      · have dp : decide ((0 : Int) < (P.length : Int)) = true := decide_eq_true (by omega)
        have dp2 : decide (0 < P.length) = true := decide_eq_true (by omega)
        obtain ⟨pg, hpp⟩ := (by
          rcases HI.out.po.2 with ⟨_, h1⟩ | ⟨g, cap, cur, e, _⟩
          · omega
          · injection e with e1 _ _
            exact ⟨g, e1⟩ : ∃ g, pp = some ⟨g, 0, none⟩)
        subst hpp
        have e5 : ∀ q2 : Later wr, q2.1.cell? ⟨pg, 0, none⟩ = some (.int .i64 (HL.el P 0)) := fun q2 => by
          have hr := RdI.of_own ((HI.out.below q2.2).po) rfl
          obtain ⟨b, o, e, _, hc⟩ := hr.2 (by omega)
          injection e with e
          injection e with e1 e2 _
          subst e1 e2
          exact hc 0 (by omega)
        have h0I : (0 : Int) < (P.length : Int) := by omega
        by_cases hx : (HL.el Ws k).1 ≤ HL.el P 0
        · have HGO : Hid (goP P (HL.el Ws k) = true) := Lib.hid (by simp [goP, hx])
          have dx : decide (HL.el P 0 < (HL.el Ws k).1) = false := decide_eq_false (by omega)
          clear hx
          go_wp2_with fail
          refine wp_region_later (by kernel_rfl) (by kernel_rfl) ?_
          repeat (go_big_quiet_step (fail))
          refine wpQuiet_nil ?_
          intro W1 hw'
          obtain ⟨⟨W, hq⟩, hw''⟩ := hw'
          have hw3 : W1 = W := hw''
          subst hw3
          have HRW := Lib.hid (hR.out.below hq)
          have HCV : Hid (∀ q2 : Later W1, RelC rb g k (.slice q (relL L P (Ws.take k)).length d) (.slice (some ⟨g, 0, none⟩) Ws.length wc) (.slice (some ⟨pg, 0, none⟩) P.length pc) (HL.el Ws k).1 (HL.el Ws k).2 q2.1) := Lib.hid (fun q2 => HCA.out q2.1 (hq.trans (q2.2.mono hq.size)))
          have HIW := Lib.hid (HI.out.below hq)
          have HPUT : Hid (∀ V, Below W1.heap.size W1 V → Calls Tryz.prog 17 #[.slice q (relL L P (Ws.take k)).length d, .int .i64 (HL.el Ws k).2] V fun e w' => ∃ u, e = .returned u ∧ w'.ownsRow V.heap.size 3 1 u ((relL L P (Ws.take k)).length + 1) (rowOf ncells (CL.ins (relL L P (Ws.take k)) (HL.el Ws k).2)) ∧ Below V.heap.size V w') := Lib.hid (fun V hV => ref_put_any (HL.el Ws k).2 ((HIW.out.below hV).lo) rfl HLEN.out)
          have HSET : Hid (∀ (V : World) (u : Value), Below W1.heap.size W1 V → V.ownsRow W1.heap.size 3 1 u ((relL L P (Ws.take k)).length + 1) (rowOf ncells (CL.ins (relL L P (Ws.take k)) (HL.el Ws k).2)) → RelS rb base lv (.slice (some ⟨g, 0, none⟩) Ws.length wc) (.slice (some ⟨pg, 0, none⟩) P.length pc) L Ws P w (k + 1) (.slice op ((Ws.take k).filter fun x => !goP P x).length oc) (V.setCell ⟨rb, 0, none⟩ u)) := Lib.hid (fun V u hV ho => HRW.out.go hlt HGO.out hV ho (by rw [CL.ins_length]))
          have HCN : Hid ((((Ws.take (k + 1)).filter (goP P)).length : Int) = (((Ws.take k).filter (goP P)).length : Int) + 1) := Lib.hid (by rw [el_takeW hlt, List.filter_append, List.filter_cons_of_pos HGO.out, List.length_append]; simp)
          have hd0 : Below W1.heap.size W1 W1.drew := ((Fr.refl (fun _ => False) W1).drew).below (Nat.le_refl _) (fun _ h => h.elim)
          have HBd := Lib.hid hd0
          clear hd0 hR HRW HIW HI hq HGO c1 hI hl' e0 e1 e2 e3 e4 hw'' HCW HCA dp dp2 e5 dx
          generalize (HL.el Ws k).2 = x2 at *
          generalize (HL.el Ws k).1 = x1 at *
          have e0 := fun q2 => (HCV.out q2).1
          have e1 := fun q2 => (HCV.out q2).2.1
          have e4 := fun q2 => (HCV.out q2).2.2.2.2.1
          go_wp2_with fail
          refine Mix.region_mix (n := 16) (m := 4) (fun V => ∃ q : Later W1, V = q.1) [0, 1, 2, 3, 4, 5, 6, 7, 8, 9, 10, 11, 12] (by kernel_rfl) rfl rfl (by kernel_rfl) (by kernel_rfl) ⟨⟨W1.drew, HBd.out⟩, rfl⟩ ?_
          repeat (refine Mix.picks_step rfl ?_; go_big_quiet_step (fail))
          refine Mix.picks_nil ?_
          intro inv
          refine sink_one (i := 13) (by kernel_rfl) rfl (by omega) inv (fun K hK => ?_)
          have HKK := Lib.hid hK
          clear hK
          go_simp
          go_at_call 17
          refine (HPUT.out _ HBd.out).mono ?_
          rintro e W2 ⟨u, rfl, ho, hb2⟩
          obtain ⟨p5, c5, hv5⟩ := owns_slice ho
          subst hv5
          have HB2 : Hid (Below W1.heap.size W1 W2) := Lib.hid (HBd.out.trans hb2)
          have HN := Lib.hid (HSET.out W2 _ HB2.out ho)
          clear ho hb2
          refine HKK.out _ _ ⟨⟨_, HB2.out⟩, rfl⟩ ?_
          clear HKK inv
          intro hS inv
          (try simp only [Act.put]); (try simp only [List.setIfInBounds_toArray]); (try simp only [List.set_cons_succ]); (try simp only [List.set_cons_zero])
          refine sink_one (i := 14) (by kernel_rfl) rfl (by omega) inv (fun K hK => ?_)
          have HKK := Lib.hid hK
          clear hK
          go_simp
          refine HKK.out _ _ ⟨⟨_, HB2.out⟩, rfl⟩ ?_
          clear HKK inv
          intro hS inv
          (try simp only [Act.put]); (try simp only [List.setIfInBounds_toArray]); (try simp only [List.set_cons_succ]); (try simp only [List.set_cons_zero])
          refine sink_one (i := 15) (by kernel_rfl) rfl (by omega) inv (fun K hK => ?_)
          have HKK := Lib.hid hK
          clear hK
          go_simp
          refine HKK.out _ _ ⟨⟨_, HB2.out⟩, rfl⟩ ?_
          clear HKK inv
          intro hS inv
          (try simp only [Act.put]); (try simp only [List.setIfInBounds_toArray]); (try simp only [List.set_cons_succ]); (try simp only [List.set_cons_zero])
          refine sink_last (by kernel_rfl) rfl (by kernel_rfl) (fun K hK => ?_)
          have HKK := Lib.hid hK
          clear hK
          have cq5 := (HCV.out ⟨W2, HB2.out⟩).1
          have fq5 := (HCV.out ⟨W2, HB2.out⟩).2.2.2.2.2
          go_simp
          refine HKK.out _ _ ⟨rfl, ?_⟩
          clear HKK inv hS cq5 fq5 e0 e1 e4
          go_wp2
          go_roundw
          case rel => exact ⟨k + 1, by omega, by go_num, by rw [HCN.out], HN⟩
          case measure => simp [intOf]; omega
        · have HST2 : Hid (goP P (HL.el Ws k) = false) := Lib.hid (by simp [goP, hp0, hx])
          have dx : decide (HL.el P 0 < (HL.el Ws k).1) = true := decide_eq_true (by omega)
          clear hx
          go_wp2_with fail
          refine wp_region_later (by kernel_rfl) (by kernel_rfl) ?_
          repeat (go_big_quiet_step (fail))
          refine wpQuiet_nil ?_
          intro W1 hw'
          obtain ⟨⟨W, hq⟩, hw''⟩ := hw'
          have hw3 : W1 = W := hw''
          subst hw3
          have HRW := Lib.hid (hR.out.below hq)
          have HCV := HCA.out W1 hq
          obtain ⟨_, c1W, _, x1W, x2W, _⟩ := HCV
          have HO := Lib.hid HRW.out.o
          have hbs := HRW.out.f.size
          have HSTAY : Hid (∀ (kv' : Value) (W : World) (ob : Obj), W.ownsRow w.heap.size 83 2 kv' (((Ws.take k).filter fun x => !goP P x).length + 1) (rowOf wc2 ((Ws.take k).filter fun x => !goP P x) ++ rowOf wc2 [((HL.el Ws k).1, (HL.el Ws k).2)]) → (W1.alloc ob).grownBy W (Value.slice op ((Ws.take k).filter fun x => !goP P x).length oc).ownBlock → RelS rb base lv (.slice (some ⟨g, 0, none⟩) Ws.length wc) (.slice (some ⟨pg, 0, none⟩) P.length pc) L Ws P w (k + 1) kv' W) := Lib.hid (fun _ _ _ ho hg => HRW.out.stay hlt HST2.out ho hg)
          have hsl : ((Ws.take k).filter fun x => !goP P x).length ≤ 10000 := by
            have h2 := List.length_filter_le (fun x => !goP P x) (Ws.take k)
            rw [List.length_take] at h2
            omega
          have HCN : Hid ((((Ws.take (k + 1)).filter (goP P)).length : Int) = (((Ws.take k).filter (goP P)).length : Int)) := Lib.hid (by rw [el_takeW hlt, List.filter_append, List.filter_cons_of_neg (by rw [HST2.out]; simp), List.length_append]; simp)
          clear hR HRW HI hq c1 hI hl' e0 e1 e2 e3 e4 e5 dx dp dp2 hw'' HCW HCA
          generalize (HL.el Ws k).2 = x2 at *
          generalize (HL.el Ws k).1 = x1 at *
          generalize ((Ws.take k).filter fun x => !goP P x) = SW at *
          go_wp2_with (at_builtin; go_loud (refine RowT.app ww_T rfl _ _ rfl w.heap.size (.slice op SW.length oc) SW.length (rowOf wc2 SW) rfl (HO.out.alloc _) (m := 1) (zs := [(x1, x2)]) rfl (RdG.fresh W1 [(x1, x2)] 83) (fun h => by cases h) (by omega) (by simp; omega) ?_; intro v4 w4 hown4 hgr4 _; have HN := Lib.hid (HSTAY.out _ _ _ hown4 hgr4); clear hown4 hgr4))
          go_roundw
          case rel => exact ⟨k + 1, by omega, by go_num, by rw [HCN.out], HN⟩
          case measure => simp [intOf]; omega
    · obtain rfl : k = Ws.length := by omega
      have HD := Lib.hid hR.out.done
      obtain ⟨lv', hI, _⟩ := hR.out.i
      have c1 := hI.c1
      have f1 := hI.f1
      rw [List.take_length] at *
      clear hR hI
      go_wp2
      go_ret
      exact HD.out
end Go.Proofs.YtedcpckocedcoaaGreat
