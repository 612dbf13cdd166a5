/- Merged texts: Rf13 Rf14 Rf15 Rf16. -/
import Derived.Test.YtaodldagmmephaaGreatA7
import Derived.Deep.DeepCutAuto
import Derived.Deep.CutBlock
/- raft: count. -/
namespace Go.Proofs.YtaodldagmmephaaGreat
open Go.RowKit Go.Maps
namespace CL
theorem reached_range {zs ids ats : List Int} {a b : Int} (ha : a ≤ 0) (hb : 0 ≤ b) (h : ∀ x ∈ ats, a ≤ x ∧ x ≤ b) : a ≤ reached zs ids ats ∧ reached zs ids ats ≤ b := by
  have hv : ∀ x, a ≤ val ids ats x ∧ val ids ats x ≤ b := fun x => by
    unfold val
    split
    · rename_i h2
      exact h _ (el_mem h2.2)
    · exact ⟨ha, hb⟩
  unfold reached
  split
  · exact ⟨ha, hb⟩
  · by_cases hi : (nrm zs).length - quo (nrm zs).length < (srt ((nrm zs).map (val ids ats))).length
    · have h3 := el_mem hi
      rw [srt_mem] at h3
      obtain ⟨y, _, hy⟩ := List.mem_map.1 h3
      rw [← hy]
      exact hv y
    · have h4 : HL.el (srt ((nrm zs).map (val ids ats))) ((nrm zs).length - quo (nrm zs).length) = 0 := by
        unfold HL.el
        rw [List.getD_eq_getElem?_getD, List.getElem?_eq_none (by omega)]
        rfl
      rw [h4]
      exact ⟨ha, hb⟩
end CL
namespace RF
section
variable {rb base : Nat} {s : RS} {h : Hd} {w : World} {M : Int} {N : Nat}
theorem RB.pr (B : RB M N s) (i : Int) : 0 ≤ (s.pr i).mt ∧ (s.pr i).mt ≤ M ∧ 0 ≤ (s.pr i).rd ∧ (s.pr i).rd ≤ 4611686018427387904 := by
  unfold RS.pr
  cases hp : pget s.ps i with
  | none =>
    have h1 := B.commit
    exact ⟨by show (0 : Int) ≤ 0; omega, by show (0 : Int) ≤ M; omega, by show (0 : Int) ≤ 0; omega, by show (0 : Int) ≤ _; omega⟩
  | some p =>
    unfold pget at hp
    rw [Option.map_eq_some_iff] at hp
    obtain ⟨x, hx, rfl⟩ := hp
    have h1 := B.ps x (List.mem_of_find?_eq_some hx)
    exact ⟨h1.2.2.1.1, h1.2.2.1.2, h1.2.2.2.1, h1.2.2.2.2⟩
theorem RB.lastLo (B : RB M N s) : 0 ≤ s.last := by
  have := B.lastE
  have := (newOk_parts B.log).1
  omega
theorem RB.knowO (B : RB M N s) : RB M N (s.knowAll s.others) := B.knowAll _ (fun i hi => ⟨(B.othId i hi).1, (B.othId i hi).2.1⟩)
theorem RB.farMt (B : RB M N s) : 0 ≤ s.far s.last Pr.mt ∧ s.far s.last Pr.mt ≤ M := by
  unfold RS.far
  refine CL.reached_range (Int.le_refl _) (by have := B.commit; omega) (fun x hx => ?_)
  rcases List.mem_cons.1 hx with rfl | hx
  · exact ⟨B.lastLo, B.top⟩
  · obtain ⟨i, _, rfl⟩ := List.mem_map.1 hx
    have := B.knowO.pr i
    exact ⟨this.1, this.2.1⟩
theorem RB.memAt (B : RB M N s) (lim : Int) (hl : lim ≤ M) : (s.mem lim).2 ≤ M ∧ 0 ≤ (s.mem lim).2 := by
  unfold RS.mem
  have hlast := B.lastE
  have htop := B.top
  have hb := (newOk_parts B.log).1
  split
  · rename_i h1
    refine ⟨?_, by omega⟩
    unfold lmemV at h1 ⊢
    cases hm : lmem s.l lim with
    | none => rw [hm] at h1; exact absurd h1 (by simp)
    | some y =>
      unfold lmem at hm
      obtain ⟨e, _, he⟩ := List.exists_of_findSome?_eq_some hm
      unfold memOf at he
      split at he
      · rename_i h2
        rw [Option.map_eq_some_iff] at he
        obtain ⟨m, hm2, rfl⟩ := he
        show e.ix ≤ M
        omega
      · cases he
  · exact ⟨by show s.b ≤ M; omega, hb⟩
theorem RB.count1 (B : RB M N s) {x : Int} (h0 : 0 ≤ x) (h1 : x ≤ M) : RB M N (s.count1 x) := by
  unfold RS.count1
  split
  · exact ⟨B.id, B.log, B.top, B.big, B.few, B.low, B.da, B.snap, B.ps, B.nd, B.term, B.round, ⟨h0, h1⟩, B.ltm⟩
  · exact B

def Dec (β : Bool) (p : Prop) : Prop := β = true ↔ p
theorem Dec.t {p : Prop} (h : p) : Dec true p := ⟨fun _ => h, fun _ => rfl⟩
theorem Dec.f {p : Prop} (h : ¬ p) : Dec false p := ⟨(fun e => by cases e), (fun hp => absurd hp h)⟩
theorem termV_is (o : Option Int) : ∃ lt ok, termV o = .tuple #[.int .i64 lt, .bool ok] ∧ ∀ t, o = some t ↔ (ok = true ∧ lt = t) := by
  cases o with
  | none => exact ⟨0, false, rfl, fun t => by simp⟩
  | some x => exact ⟨x, true, rfl, fun t => by simp⟩
set_option maxHeartbeats 2000000 in
set_option maxRecDepth 100000 in
theorem rf_count (H : Rf rb base s h w) (B : RB M N s) :
    Calls Tryz.prog 65 #[.pointer (some ⟨rb, 0, none⟩)] w fun e w' => e = .returned (.tuple #[]) ∧ ∃ h', Rf rb base s.count h' w' ∧ PS rb h h' w w' ∧ Hd.Ext h h' := by
  have HL := Lib.hid (rf_last H)
  have HAT := Lib.hid (fun W (hW : Below w.heap.size w W) => rf_at_mt s.last (H.below hW) B)
  have HX := Lib.hid B.farMt
  have HBK := Lib.hid B.knowO
  have HB1 := Lib.hid (B.knowO.count1 B.farMt.1 B.farMt.2)
  have hbig := B.big
  have HTOP := Lib.hid B.top
  have HH := Lib.hid H
  unfold RS.count
  generalize hX : s.far s.last Pr.mt = x at *
  generalize hK : s.knowAll s.others = k at *
  clear H B hX hK
  go_enter Tryz.func65, Tryz.ntmps65
  go_wp2_with fail
  with_reducible refine (HL.out).mono ?_
  rintro e w1 ⟨rfl, hb1⟩
  have HA1 := Lib.hid (HAT.out w1 hb1)
  have HB1w := Lib.hid hb1
  clear hb1 HL HAT
  go_wp2_with fail
  with_reducible refine (HA1.out).mono ?_
  rintro e w2 ⟨rfl, h2, hr2, hp2, hm2⟩
  have HR2 := Lib.hid (And.intro hr2 (And.intro ((PS.still HB1w.out).trans hp2) hm2))
  have c10 : w2.cell? ⟨rb, 10, none⟩ = some (.pointer (some ⟨h2.xb, 0, none⟩)) := hr2.cell 10 rfl
  have HTM := Lib.hid (lg_term x (hr2.all .log) (by have := HX.out.2; omega))
  clear hr2 hp2 hm2 HA1
  go_wp2_with fail
  with_reducible refine (HTM.out).mono ?_
  rintro e w3 ⟨rfl, hb3⟩
  have hr3 := HR2.out.1.below hb3
  have HP3 := Lib.hid (HR2.out.2.1.trans (PS.still hb3))
  obtain ⟨lt, ok, htv, hti⟩ := termV_is (termS k.b k.t k.l x)
  rw [htv]
  have HTI := Lib.hid (hti k.term)
  have c3 : w3.cell? ⟨rb, 3, none⟩ = some (.int .i64 k.term) := hr3.cell 3 rfl
  have c5 : w3.cell? ⟨rb, 5, none⟩ = some (.int .i64 k.commit) := hr3.cell 5 rfl
  have f5 : w3.frozen? ⟨rb, 5, none⟩ = false := hr3.fz 5 (by omega)
  have c14 : w3.cell? ⟨rb, 14, none⟩ = some (.bool k.out.hd) := hr3.cell 14 rfl
  have f14 : w3.frozen? ⟨rb, 14, none⟩ = false := hr3.fz 14 (by omega)
  have h4 := hr3.put { k with commit := x } 5 (.int .i64 x) (by omega) rfl (same_refl k)
  have h5 := h4.put { k with commit := x, out := { k.out with hd := true } } 14 (.bool true) (by omega) rfl (same_refl k)
  have HA := Lib.hid hr3
  have HB := Lib.hid h5
  clear htv hti HTM c10 hb3 hr3 h4 h5
  go_upto_region 2 with fail
  go_cut [38] (fun s38 wx => ∃ β : Bool, s38 = .bool β ∧ wx = w3 ∧ Hid (Dec β (k.commit < x ∧ termS k.b k.t k.l x = some k.term)))
  case first =>
    by_cases hcx : k.commit < x
    · have d1 : decide (k.commit < x) = true := decide_eq_true hcx
      cases ok with
      | false =>
        have HN : Hid (Dec false (k.commit < x ∧ termS k.b k.t k.l x = some k.term)) := Lib.hid (Dec.f (fun hc => by have := HTI.out.1 hc.2; cases this.1))
        clear hcx
        go_wp2
        go_meet
        case rel => exact ⟨false, rfl, by first | rfl | trivial, HN⟩
      | true =>
        by_cases htt : lt = k.term
        · subst htt
          have HN : Hid (Dec true (k.commit < x ∧ termS k.b k.t k.l x = some k.term)) := Lib.hid (Dec.t ⟨hcx, HTI.out.2 ⟨rfl, rfl⟩⟩)
          clear hcx
          go_wp2
          go_meet
          case rel => exact ⟨true, by simp, by first | rfl | trivial, HN⟩
        · have d2 : (lt == k.term) = false := by simp [htt]
          have HN : Hid (Dec false (k.commit < x ∧ termS k.b k.t k.l x = some k.term)) := Lib.hid (Dec.f (fun hc => htt (HTI.out.1 hc.2).2))
          clear hcx htt
          go_wp2
          go_meet
          case rel => exact ⟨false, rfl, by first | rfl | trivial, HN⟩
    · have d1 : decide (k.commit < x) = false := decide_eq_false hcx
      have HN : Hid (Dec false (k.commit < x ∧ termS k.b k.t k.l x = some k.term)) := Lib.hid (Dec.f (fun hc => hcx hc.1))
      clear hcx
      go_wp2
      go_meet
      case rel => exact ⟨false, rfl, by first | rfl | trivial, HN⟩
  case rest =>
  obtain ⟨β, rfl, hwc, HBE⟩ := hcut
  subst hwc
  go_upto_if 38 with fail
  go_cut [] (fun wx => Hid (Rf rb base (k.count1 x) h2 wx ∧ PS rb h h2 w wx))
  case first =>
    cases β with
    | true =>
      have HN : Hid (Rf rb base (k.count1 x) h2 ((wc.setCell ⟨rb, 5, none⟩ (.int .i64 x)).setCell ⟨rb, 14, none⟩ (.bool true)) ∧ PS rb h h2 w ((wc.setCell ⟨rb, 5, none⟩ (.int .i64 x)).setCell ⟨rb, 14, none⟩ (.bool true))) := Lib.hid (by
        unfold RS.count1
        rw [if_pos (HBE.out.1 rfl)]
        exact ⟨HB.out, HP3.out.trans (PS.core (fr_core2 (fr_core _ _ _ _) _ _))⟩)
      go_wp2
      go_meet
      case rel => exact HN
    | false =>
      have HN : Hid (Rf rb base (k.count1 x) h2 wc ∧ PS rb h h2 w wc) := Lib.hid (by
        unfold RS.count1
        rw [if_neg (fun hc => by have := HBE.out.2 hc; cases this)]
        exact ⟨HA.out, HP3.out⟩)
      go_wp2
      go_meet
      case rel => exact HN
  case rest =>
    have HC := Lib.hid hcut.out
    have HM2 := Lib.hid HR2.out.2.2
    clear hcut HA HB HP3 HR2 HTI c3 c5 f5 c14 f14 HBK
    obtain ⟨W, hW⟩ : ∃ W, W = wc := ⟨_, rfl⟩
    rw [← hW] at HC ⊢
    clear hW wc
    have HLC : Hid ((k.count1 x).last = k.last) := Lib.hid (by unfold RS.count1; split <;> rfl)
    generalize hge : k.count1 x = s at *
    have HGE := Lib.hid hge
    clear hge
    have HL := Lib.hid (rf_last HC.out.1)
    have HMB := Lib.hid (fun W1 (hb : Below W.heap.size W W1) => rf_members s.last (HC.out.1.below hb) HB1.out.da)
    have HAT := Lib.hid (HB1.out.memAt s.last HB1.out.top)
    have HS2 : Hid (s.count2 = if (atS s.b s.l (s.mem s.last).2).isSome ∧ (s.mem s.last).2 ≤ s.commit ∧ ¬ s.id ∈ (s.mem s.last).1 then s.down s.term else s) := Lib.hid rfl
    have HMV := Lib.hid ((HB1.out.mem s.last).2.1)
    have HAS := Lib.hid (fun i (hi : i ≤ 9223372036854775807) W1 (hb : Below W.heap.size W W1) => lg_at i ((HC.out.1.below hb).all .log) hi)
    generalize s.last = la at *
    generalize s.mem la = x at *
    obtain ⟨m, a⟩ := x
    dsimp only at HMB HAT HS2 HMV
    go_wp2_with fail
    with_reducible refine (HL.out).mono ?_
    rintro e w5 ⟨rfl, hb5⟩
    have HM5 := Lib.hid (HMB.out w5 hb5)
    have HB5 := Lib.hid hb5
    clear hb5 HL HMB
    go_wp2_with fail
    with_reducible refine (HM5.out).mono ?_
    rintro e w6 ⟨v6, rfl, ho6, hb6⟩
    obtain ⟨p6, c6, hv6⟩ := owns_slice ho6
    subst hv6
    have HB6 : Hid (Below W.heap.size W w6) := Lib.hid (HB5.out.trans (hb6.mono HB5.out.size))
    have HO6 := Lib.hid ho6
    have hr6 := HC.out.1.below HB6.out
    have d10 : w6.cell? ⟨rb, 10, none⟩ = some (.pointer (some ⟨h2.xb, 0, none⟩)) := hr6.cell 10 rfl
    have HA6 := Lib.hid (HAS.out a (by have := HAT.out.1; omega) w6 HB6.out)
    rw [atV_form] at HA6
    clear hb6 ho6 HM5 HAS hr6
    generalize hen : (atS s.b s.l a).getD en0 = en at *
    generalize hsm : (atS s.b s.l a).isSome = ism at *
    obtain ⟨a1, a2, a3, a4⟩ := en
    unfold env at HA6
    dsimp only at HA6
    go_wp2_with fail
    with_reducible refine (HA6.out).mono ?_
    rintro e w7 ⟨rfl, hb7⟩
    have HB7 : Hid (Below W.heap.size W (w7.alloc (.cells #[.int .i64 a1, .int .i64 a2, .int .i64 a3, .string a4] 25))) := Lib.hid ((HB6.out.trans (hb7.mono HB6.out.size)).alloc (HB6.out.trans (hb7.mono HB6.out.size)).size _)
    have hr8 := HC.out.1.below HB7.out
    have HR8 := Lib.hid hr8
    have c0 : (w7.alloc (.cells #[.int .i64 a1, .int .i64 a2, .int .i64 a3, .string a4] 25)).cell? ⟨rb, 0, none⟩ = some (.int .i64 s.id) := hr8.cell 0 rfl
    have c3 : (w7.alloc (.cells #[.int .i64 a1, .int .i64 a2, .int .i64 a3, .string a4] 25)).cell? ⟨rb, 3, none⟩ = some (.int .i64 s.term) := hr8.cell 3 rfl
    have c5 : (w7.alloc (.cells #[.int .i64 a1, .int .i64 a2, .int .i64 a3, .string a4] 25)).cell? ⟨rb, 5, none⟩ = some (.int .i64 s.commit) := hr8.cell 5 rfl
    have hbA : Below w6.heap.size w6 (w7.alloc (.cells #[.int .i64 a1, .int .i64 a2, .int .i64 a3, .string a4] 25)) := hb7.alloc hb7.size _
    have HHAS := Lib.hid (has_ints p6 m.length c6 _ m s.id _ (((RdI.of_own HO6.out rfl).below hbA).more hbA.size) (by have := HMV.out; omega))
    have HDN := Lib.hid (rf_down s.term hr8)
    have HPP := Lib.hid (HC.out.2.trans (PS.still HB7.out))
    clear hb7 HA6 hbA hr8 d10
    cases ism with
    | false =>
      have HE : Hid (s.count2 = s) := Lib.hid (by rw [HS2.out, if_neg (fun h => by cases h.1)])
      go_wp2
      go_end0
      exact ⟨rfl, h2, by rw [HGE.out, HE.out]; exact HR8.out, HPP.out, HM2.out⟩
    | true =>
      by_cases hca : a ≤ s.commit
      · have d1 : decide (a ≤ s.commit) = true := decide_eq_true hca
        by_cases hin : s.id ∈ m
        · have HE : Hid (s.count2 = s) := Lib.hid (by rw [HS2.out, if_neg (fun h => h.2.2 hin)])
          rw [decide_eq_true hin] at HHAS
          clear hin
          go_wp2_with fail
          with_reducible refine (HHAS.out).mono ?_
          rintro e w9 ⟨rfl, hw9⟩
          subst hw9
          go_wp2
          go_end0
          exact ⟨rfl, h2, by rw [HGE.out, HE.out]; exact HR8.out, HPP.out, HM2.out⟩
        · have HE : Hid (s.count2 = s.down s.term) := Lib.hid (by rw [HS2.out, if_pos ⟨rfl, hca, hin⟩])
          rw [decide_eq_false hin] at HHAS
          clear hin
          go_wp2_with fail
          with_reducible refine (HHAS.out).mono ?_
          rintro e w9 ⟨rfl, hw9⟩
          subst hw9
          go_wp2_with fail
          with_reducible refine (HDN.out).mono ?_
          rintro e w9 ⟨rfl, hr9, hf9⟩
          have HF := Lib.hid (And.intro hr9 (HPP.out.trans (PS.core hf9)))
          clear hr9 hf9
          go_wp2
          go_end0
          exact ⟨rfl, h2, by rw [HGE.out, HE.out]; exact HF.out.1, HF.out.2, HM2.out⟩
      · have d1 : decide (a ≤ s.commit) = false := decide_eq_false hca
        have hca2 : s.commit < a := by omega
        have HE : Hid (s.count2 = s) := Lib.hid (by rw [HS2.out, if_neg (fun h => hca h.2.1)])
        clear hca
        go_wp2
        go_end0
        exact ⟨rfl, h2, by rw [HGE.out, HE.out]; exact HR8.out, HPP.out, HM2.out⟩
end
end RF
end Go.Proofs.YtaodldagmmephaaGreat

/- raft: bounds that grow; the map of the peers anew. -/
namespace Go.Proofs.YtaodldagmmephaaGreat
open Go.RowKit Go.Maps
theorem lastS_cons (i t : Int) (x : En) (l : List En) : lastS i t (x :: l) = lastS x.ix x.tm l := by
  unfold lastS
  cases l with
  | nil => simp [HL.el]
  | cons y l =>
    rw [if_neg (by simp), if_neg (by simp)]
    have : HL.el (x :: y :: l) ((x :: y :: l).length - 1) = HL.el (y :: l) ((y :: l).length - 1) := by simp [HL.el]
    rw [this]
theorem follow_snoc (e : En) : ∀ (l : List En) (i t : Int), followB i t (l ++ [e]) = true ↔ followB i t l = true ∧ e.ix = (lastS i t l).1 + 1 ∧ (lastS i t l).2 ≤ e.tm
  | [], i, t => by simp [followB, lastS]
  | x :: l, i, t => by
    rw [lastS_cons]
    show (decide (x.ix = i + 1) && (decide (t ≤ x.tm) && followB x.ix x.tm (l ++ [e]))) = true ↔ (decide (x.ix = i + 1) && (decide (t ≤ x.tm) && followB x.ix x.tm l)) = true ∧ _
    simp only [Bool.and_eq_true, decide_eq_true_eq]
    rw [follow_snoc e l x.ix x.tm]
    constructor
    · rintro ⟨a, b, c, d⟩; exact ⟨⟨a, b, c⟩, d⟩
    · rintro ⟨⟨a, b, c⟩, d⟩; exact ⟨a, b, c, d⟩
theorem lastS_snoc (i t : Int) (l : List En) (e : En) : lastS i t (l ++ [e]) = (e.ix, e.tm) := by
  unfold lastS
  rw [if_neg (by simp)]
  have : HL.el (l ++ [e]) ((l ++ [e]).length - 1) = e := by simp [HL.el]
  rw [this]
namespace RF
section
variable {rb base : Nat} {s : RS} {h : Hd} {w : World} {M : Int} {N : Nat}
theorem RB.mono (B : RB M N s) {M' : Int} {N' : Nat} (hM : M ≤ M') (h1 : M' ≤ 4503599627370496) (hN : N ≤ N') (h2 : N' ≤ 10000) : RB M' N' s :=
  ⟨B.id, B.log, by have := B.top; omega, h1, by have := B.few; omega, h2, B.da, B.snap, fun x hx => by have := B.ps x hx; omega, B.nd, B.term, B.round, by have := B.commit; omega, B.ltm⟩
theorem RB.add (B : RB M N s) (kd : Int) {da : ByteArray} (hda : da.size ≤ 2000000) (hM : M < 4503599627370496) (hN : N < 10000) : RB (M + 1) (N + 1) (s.add kd da) := by
  have hl : (s.put ⟨s.last + 1, s.term, kd, da⟩).last = s.last + 1 := by
    show (lastS s.b s.t (s.l ++ [_])).1 = _
    rw [lastS_snoc]
  have h0 : RB (M + 1) (N + 1) (s.put ⟨s.last + 1, s.term, kd, da⟩) := by
    obtain ⟨h1, h2, h3⟩ := newOk_parts B.log
    refine ⟨B.id, ?_, by have := B.top; omega, by omega, ?_, by omega, ?_, B.snap, fun x hx => by have := B.ps x hx; omega, B.nd, B.term, B.round, by show 0 ≤ s.commit ∧ s.commit ≤ M + 1; have := B.commit; omega, ?_⟩
    · unfold newOk
      simp only [Bool.and_eq_true, decide_eq_true_eq]
      refine ⟨h1, h2, (follow_snoc _ _ _ _).2 ⟨h3, rfl, B.ltm⟩⟩
    · show (s.l ++ [_]).length ≤ _
      rw [List.length_append]
      have := B.few
      show s.l.length + 1 ≤ _
      omega
    · intro e he
      rcases List.mem_append.1 he with he | he
      · exact B.da e he
      · rw [List.mem_singleton] at he
        subst he
        exact hda
    · show (lastS s.b s.t (s.l ++ [_])).2 ≤ s.term
      rw [lastS_snoc]
      exact Int.le_refl _
  unfold RS.add RS.changed
  split
  · exact h0.of rfl rfl rfl rfl rfl rfl rfl rfl rfl
  · exact h0
theorem RB.win1 (B : RB M N s) : RB M N s.win1 := ⟨B.id, B.log, B.top, B.big, B.few, B.low, B.da, B.snap, (fun x hx => by cases hx), List.nodup_nil, B.term, ⟨by show (0 : Int) ≤ 0; omega, by show (0 : Int) ≤ _; omega⟩, B.commit, B.ltm⟩
theorem RB.down (B : RB M N s) {t : Int} (h1 : t ≤ 1152921504606846976) : RB M N (s.down t) := by
  unfold RS.down
  have ht := B.term
  split
  · rename_i h
    exact ⟨B.id, B.log, B.top, B.big, B.few, B.low, B.da, B.snap, B.ps, B.nd, ⟨by show 0 ≤ t; omega, h1⟩, B.round, B.commit, Int.le_trans B.ltm (Int.le_of_lt h)⟩
  · exact B.of rfl rfl rfl rfl rfl rfl rfl rfl rfl
theorem RB.count2 (B : RB M N s) : RB M N s.count2 := by
  unfold RS.count2
  split
  · exact B.down B.term.2
  · exact B
theorem RB.count (B : RB M N s) : RB M N s.count := (B.knowO.count1 B.farMt.1 B.farMt.2).count2

/-- The map of the peers is a new, empty one. -/
theorem Rf.remap (H : Rf rb base s h w) {W : World} (hb : Below w.heap.size w W) (mb : Nat) (hlo : w.heap.size ≤ mb) (hm : heldM mb 0 [] W) : Rf rb base { s with ps := [] } { h with mb := mb, ph := [] } (W.setCell ⟨rb, 11, none⟩ (.map (some mb))) ∧ PS rb h { h with mb := mb, ph := [] } w (W.setCell ⟨rb, 11, none⟩ (.map (some mb))) := by
  have H2 := H.below hb
  have hF : Fr (fun k => k = rb) w (W.setCell ⟨rb, 11, none⟩ (.map (some mb))) := fr_core2 (Fr.of_all hb) _ _
  have hrb := H.rlt
  have hne : mb ≠ rb := by omega
  have hnew : ∀ q, ¬ part rb h q mb := fun q hq => by have := (part_lt (H.all q) mb hq).2; omega
  refine ⟨H.upd (fun p => p = .core ∨ p = .map ∨ p = .peers) (fun p k => p = .map ∧ k = mb) hF (fun k e p hp => .inl (H.dis p .core k hp e)) ?_ ?_ ?_ ?_, hF.mono (fun _ _ e => ⟨.core, e⟩), ?_⟩
  · rintro p (rfl | rfl | rfl)
    · refine ⟨fun j u hu => ?_, fun j hj => by rw [frozen_set]; exact H2.fz j hj, (H.all .core).2.2⟩
      by_cases hj : j = 11
      · subst hj
        injection hu with hu
        rw [← hu]
        exact cell_set_same _ _ _ _ (H2.cell 11 rfl)
      · rw [World.cell?_setCell_other _ _ _ _ (by intro e; injection e with _ e _; omega)]
        refine H2.cell j ?_
        rw [← hu]
        have hj17 : j < 17 := (List.getElem?_eq_some_iff.1 hu).1
        match j, hj with
        | 0, _ => rfl
        | 1, _ => rfl
        | 2, _ => rfl
        | 3, _ => rfl
        | 4, _ => rfl
        | 5, _ => rfl
        | 6, _ => rfl
        | 7, _ => rfl
        | 8, _ => rfl
        | 9, _ => rfl
        | 10, _ => rfl
        | 12, _ => rfl
        | 13, _ => rfl
        | 14, _ => rfl
        | 15, _ => rfl
        | 16, _ => rfl
        | j + 17, _ => omega
    · exact ⟨hm.keep (fr_core W rb 11 _) hne, Nat.le_trans H.bs hlo⟩
    · exact ⟨(fun x hx => by cases hx), rfl, List.nodup_nil⟩
  · intro p hp hh
    cases p with
    | core => exact absurd (.inl rfl) hp
    | map => exact absurd (.inr (.inl rfl)) hp
    | peers => exact absurd (.inr (.inr rfl)) hp
    | log => exact hh
    | snap => exact hh
    | votes => exact hh
    | msgs => exact hh
    | ents => exact hh
    | need => exact hh
  · intro p k hk
    cases p with
    | map => exact .inr ⟨⟨rfl, hk⟩, fun q hq => hnew q (by have e : k = mb := hk; rw [← e]; exact hq)⟩
    | peers => obtain ⟨x, hx, _⟩ := hk; cases hx
    | core => exact .inl hk
    | log => exact .inl hk
    | snap => exact .inl hk
    | votes => exact .inl hk
    | msgs => exact .inl hk
    | ents => exact .inl hk
    | need => exact .inl hk
  · rintro p q k ⟨rfl, _⟩ ⟨rfl, _⟩; rfl
  · intro p k hk
    cases p with
    | map => exact .inr (by have e : k = mb := hk; omega)
    | peers => obtain ⟨x, hx, _⟩ := hk; cases hx
    | core => exact .inl hk
    | log => exact .inl hk
    | snap => exact .inl hk
    | votes => exact .inl hk
    | msgs => exact .inl hk
    | ents => exact .inl hk
    | need => exact .inl hk
end
end RF
end Go.Proofs.YtaodldagmmephaaGreat

/- raft: win. -/
namespace Go.Proofs.YtaodldagmmephaaGreat
open Go.RowKit Go.Maps
namespace RF
section
variable {rb base : Nat} {s : RS} {h : Hd} {w : World} {M : Int} {N : Nat}
theorem know_last (s : RS) (i : Int) : (s.know i).last = s.last ∧ (s.know i).out = s.out := by
  unfold RS.know
  split <;> exact ⟨rfl, rfl⟩
theorem knowAll_out : ∀ (L : List Int) (s : RS), (s.knowAll L).out = s.out
  | [], _ => rfl
  | y :: L, s => (knowAll_out L (s.know y)).trans (know_last s y).2
theorem changed_nd (s : RS) (fr : Int) : (s.changed fr).out.nd = s.out.nd := by unfold RS.changed; split <;> rfl
theorem count_nd (s : RS) : s.count.out.nd = s.out.nd := by
  have h1 : ∀ s : RS, ∀ x, (s.count1 x).out.nd = s.out.nd := fun s x => by unfold RS.count1; split <;> rfl
  have h2 : ∀ s : RS, s.count2.out.nd = s.out.nd := fun s => by
    unfold RS.count2
    split
    · unfold RS.down; split <;> rfl
    · rfl
  unfold RS.count
  rw [h2, h1, knowAll_out]

set_option maxHeartbeats 2000000 in
set_option maxRecDepth 100000 in
theorem rf_win (H : Rf rb base s h w) (B : RB M N s) (hM : M < 4503599627370496) (hN : N < 10000) (hms : h.mh.length ≤ 600000) (hnd : s.out.nd.length ≤ 600000) :
    Calls Tryz.prog 99 #[.pointer (some ⟨rb, 0, none⟩)] w fun e w' => e = .returned (.tuple #[]) ∧ ∃ h', Rf rb base s.win h' w' ∧ PS rb h h' w w' ∧ h'.mh.length ≤ h.mh.length + 9 := by
  have c0 : w.cell? ⟨rb, 0, none⟩ = some (.int .i64 s.id) := H.cell 0 rfl
  have f0 : w.frozen? ⟨rb, 0, none⟩ = false := H.fz 0 (by omega)
  have c1 : w.cell? ⟨rb, 1, none⟩ = some (.int .i64 s.role) := H.cell 1 rfl
  have f1 : w.frozen? ⟨rb, 1, none⟩ = false := H.fz 1 (by omega)
  have c2 : w.cell? ⟨rb, 2, none⟩ = some (.int .i64 s.lead) := H.cell 2 rfl
  have f2 : w.frozen? ⟨rb, 2, none⟩ = false := H.fz 2 (by omega)
  have c6 : w.cell? ⟨rb, 6, none⟩ = some (.int .i64 s.elapsed) := H.cell 6 rfl
  have f6 : w.frozen? ⟨rb, 6, none⟩ = false := H.fz 6 (by omega)
  have c8 : w.cell? ⟨rb, 8, none⟩ = some (.int .i64 s.round) := H.cell 8 rfl
  have f8 : w.frozen? ⟨rb, 8, none⟩ = false := H.fz 8 (by omega)
  have h1 := H.put { s with role := 2 } 1 (.int .i64 2) (by omega) rfl (same_refl s)
  have h2 := h1.put { s with role := 2, lead := s.id } 2 (.int .i64 s.id) (by omega) rfl (same_refl s)
  have h3 := h2.put { s with role := 2, lead := s.id, elapsed := 0 } 6 (.int .i64 0) (by omega) rfl (same_refl s)
  have h4 := h3.put { s with role := 2, lead := s.id, elapsed := 0, round := 0 } 8 (.int .i64 0) (by omega) rfl (same_refl s)
  have HF4 : Hid (Fr (fun k => k = rb) w ((((w.setCell ⟨rb, 1, none⟩ (.int .i64 2)).setCell ⟨rb, 2, none⟩ (.int .i64 s.id)).setCell ⟨rb, 6, none⟩ (.int .i64 0)).setCell ⟨rb, 8, none⟩ (.int .i64 0))) := Lib.hid (fr_core2 (fr_core2 (fr_core2 (fr_core _ _ _ _) _ _) _ _) _ _)
  have H4 := Lib.hid h4
  have HB := Lib.hid B
  have HB1 := Lib.hid B.win1
  have HO1 : Hid (s.win1.out.nd = s.out.nd) := Lib.hid rfl
  have HW := Lib.hid (show w.heap.size ≤ ((((w.setCell ⟨rb, 1, none⟩ (.int .i64 2)).setCell ⟨rb, 2, none⟩ (.int .i64 s.id)).setCell ⟨rb, 6, none⟩ (.int .i64 0)).setCell ⟨rb, 8, none⟩ (.int .i64 0)).heap.size from HF4.out.size)
  clear H B h1 h2 h3 h4
  go_enter Tryz.func99, Tryz.ntmps99
  go_upto_region 1 with fail
  generalize (((w.setCell ⟨rb, 1, none⟩ (.int .i64 2)).setCell ⟨rb, 2, none⟩ (.int .i64 s.id)).setCell ⟨rb, 6, none⟩ (.int .i64 0)).setCell ⟨rb, 8, none⟩ (.int .i64 0) = W4 at *
  clear c0 c1 c2 c6 c8 f0 f1 f2 f6 f8
  have hmm := @run_makeMap Tryz.prog
  have c11 : (W4.alloc (.map #[] 0)).cell? ⟨rb, 11, none⟩ = some (.map (some h.mb)) := (H4.out.below ((Below.refl _ W4).alloc (Nat.le_refl _) _)).cell 11 rfl
  have f11 : (W4.alloc (.map #[] 0)).frozen? ⟨rb, 11, none⟩ = false := (H4.out.below ((Below.refl _ W4).alloc (Nat.le_refl _) _)).fz 11 (by omega)
  go_upto_region 2 with fail
  have hbm : Below W4.heap.size W4 (W4.alloc (.map #[] 0)) := (Below.refl _ W4).alloc (Nat.le_refl _) _
  have hre := H4.out.remap hbm W4.heap.size (Nat.le_refl _) ⟨.map [], World.ownsMap_made W4 Tryz.prog 3 heldR, MapR.nil⟩
  have HR5 : Hid (Rf rb base s.win1 { h with mb := W4.heap.size, ph := [] } ((W4.alloc (.map #[] 0)).setCell ⟨rb, 11, none⟩ (.map (some W4.heap.size)))) := Lib.hid hre.1
  have HP5 : Hid (PS rb h { h with mb := W4.heap.size, ph := [] } w ((W4.alloc (.map #[] 0)).setCell ⟨rb, 11, none⟩ (.map (some W4.heap.size)))) := Lib.hid ((PS.core HF4.out).trans hre.2)
  have HMH : Hid (({ h with mb := W4.heap.size, ph := [] } : Hd).mh = h.mh) := Lib.hid rfl
  clear c11 f11 hbm hre hmm
  generalize (W4.alloc (.map #[] 0)).setCell ⟨rb, 11, none⟩ (.map (some W4.heap.size)) = W5 at *
  obtain ⟨hh, hhe⟩ : ∃ hh : Hd, hh = { h with mb := W4.heap.size, ph := [] } := ⟨_, rfl⟩
  rw [← hhe] at HR5 HP5 HMH
  clear hhe H4 HF4 HW
  have HO := Lib.hid (rf_others HR5.out HB1.out)
  have HID := Lib.hid HB1.out.othId
  have hon := HB1.out.oth
  generalize hz : s.win1 = z at *
  have HZ := Lib.hid hz
  generalize hL : z.others = L at *
  have HLE := Lib.hid hL
  have HKB := Lib.hid (fun i => HB1.out.knowAll (L.take i) (fun x hx => ⟨(HID.out x (List.mem_of_mem_take hx)).1, (HID.out x (List.mem_of_mem_take hx)).2.1⟩))
  clear hz hL
  go_wp2_with fail
  with_reducible refine (HO.out).mono ?_
  rintro e w6 ⟨q, c, rfl, ho6, hb6⟩
  have HR6 := Lib.hid (HR5.out.below hb6)
  have HB6 := Lib.hid hb6
  have HO6 := Lib.hid ho6
  clear ho6 hb6 HO
  go_wp2
  go_loopw [27] (fun iv wr => ∃ (i : Nat) (h' : Hd), i ≤ L.length ∧ iv = .int .i64 i ∧ Hid (Rf rb base (z.knowAll (L.take i)) h' wr ∧ PS rb hh h' w6 wr ∧ h'.mh = h.mh)) (fun iv _ => L.length - (intOf iv).toNat)
  case atStart => exact ⟨0, hh, Nat.zero_le _, rfl, Lib.hid ⟨HR6.out, PS.refl _ _, HMH.out⟩⟩
  case round =>
    obtain ⟨i, h', hi, rfl, HR⟩ := hrel
    by_cases hlt : i < L.length
    · have hltI : (i : Int) < (L.length : Int) := by omega
      obtain ⟨g, cap, hgv, hg1, hg2, hg3⟩ := owns_len HO6.out (by omega)
      injection hgv with hgv _ hgc
      subst hgv hgc
      have hrd := RdI.of_own HO6.out rfl
      have d1 := oth_cells HR5.out HB6.out hg1 hg2 (fun k hk => by obtain ⟨b, o, e, _, hc⟩ := hrd.2 (by omega); injection e with e; injection e with e1 e2 _; subst e1 e2; exact hc k hk) HR.out.2.1 i hlt
      rw [Nat.zero_add] at d1
      have h3 := HID.out _ (el_mem hlt)
      have HN : Hid (z.knowAll (L.take (i + 1)) = (z.knowAll (L.take i)).know (HL.el L i)) := Lib.hid (knowAll_take hlt)
      have HPE := Lib.hid (rf_peer (HL.el L i) HR.out.1 (HKB.out i) h3.1 h3.2.1)
      generalize HL.el L i = x at *
      clear hrd h3
      go_wp2_with fail
      with_reducible refine (HPE.out).mono ?_
      rintro e w7 ⟨pb, rfl, h7, hr7, _, hp7, hm7⟩
      have HR7 := Lib.hid (And.intro hr7 (And.intro (HR.out.2.1.trans hp7) (hm7.mh.trans HR.out.2.2)))
      clear hr7 hp7 hm7 HPE HR d1
      go_wp2
      go_roundw
      case rel => exact ⟨i + 1, h7, by omega, by go_num, Lib.hid ⟨by rw [HN.out]; exact HR7.out.1, HR7.out.2.1, HR7.out.2.2⟩⟩
      case measure => simp [intOf]; omega
    · obtain rfl : i = L.length := by omega
      have htk : L.take L.length = L := List.take_length
      have hba := HKB.out L.length
      rw [htk] at HR hba
      have HAD := Lib.hid (rf_add 0 ⟨#[]⟩ HR.out.1 hba hN (by decide))
      have HB8 := Lib.hid (hba.add 0 (da := ⟨#[]⟩) (by decide) hM hN)
      have HBC := Lib.hid HB8.out.count
      have HND : Hid (((z.knowAll L).add 0 ⟨#[]⟩).count.out.nd.length ≤ 600000) := Lib.hid (by
        rw [count_nd]
        unfold RS.add
        rw [changed_nd]
        show (z.knowAll L).out.nd.length ≤ _
        rw [knowAll_out]
        rw [HO1.out]
        exact hnd)
      have HP6 := Lib.hid (HP5.out.trans ((PS.still HB6.out).trans HR.out.2.1))
      have HMR := Lib.hid HR.out.2.2
      clear hba htk HKB HR
      go_wp2_with fail
      with_reducible refine (HAD.out).mono ?_
      rintro e w8 ⟨rfl, h8, hr8, hp8, hm8⟩
      have HC8 := Lib.hid (rf_count hr8 HB8.out)
      have HP8 := Lib.hid (HP6.out.trans hp8)
      have HM8 := Lib.hid (hm8.trans HMR.out)
      clear hr8 hp8 hm8 HAD HP6 HMR
      go_wp2_with fail
      with_reducible refine (HC8.out).mono ?_
      rintro e w9 ⟨rfl, h9, hr9, hp9, hm9⟩
      have HR9 := Lib.hid hr9
      have HP9 := Lib.hid (HP8.out.trans hp9)
      have HM9 := Lib.hid (hm9.mh.trans HM8.out)
      generalize hcn : ((z.knowAll L).add 0 ⟨#[]⟩).count = t at *
      have HCN := Lib.hid hcn
      have c1 : w9.cell? ⟨rb, 1, none⟩ = some (.int .i64 t.role) := hr9.cell 1 rfl
      have HSA := Lib.hid (rf_sendAll hr9 HBC.out (by rw [HM9.out]; omega) (by have := HND.out; omega))
      clear hr9 hp9 hm9 HC8 HP8 HM8 hcn
      by_cases hrole : t.role = 2
      · have d1 : (t.role == 2) = true := by simp [hrole]
        have HE : Hid (RS.win s = t.sendAll) := Lib.hid (by unfold RS.win; dsimp only; rw [HZ.out, HLE.out, HCN.out, if_pos hrole])
        clear hrole
        go_wp2_with fail
        with_reducible refine (HSA.out).mono ?_
        rintro e w10 ⟨rfl, h10, hr10, hp10, hm10⟩
        have HF := Lib.hid (And.intro hr10 (And.intro (HP9.out.trans hp10) hm10))
        clear hr10 hp10 hm10
        go_wp2
        go_end0
        exact ⟨rfl, h10, by rw [HE.out]; exact HF.out.1, HF.out.2.1, by have := HF.out.2.2; rw [HM9.out] at this; exact this⟩
      · have d1 : (t.role == 2) = false := by simp [hrole]
        have HE : Hid (RS.win s = t) := Lib.hid (by unfold RS.win; dsimp only; rw [HZ.out, HLE.out, HCN.out, if_neg hrole])
        clear hrole
        go_wp2
        go_end0
        exact ⟨rfl, h9, by rw [HE.out]; exact HR9.out, HP9.out, by rw [HM9.out]; omega⟩
end
end RF
end Go.Proofs.YtaodldagmmephaaGreat

/- raft: done. -/
namespace Go.Proofs.YtaodldagmmephaaGreat
open Go.RowKit Go.Maps
namespace RF
/-- A box of some cells. -/
def CBox (B : Nat) (cs : List Value) (W : World) : Prop := (∀ j u, cs[j]? = some u → W.cell? ⟨B, j, none⟩ = some u) ∧ (∀ j, j < cs.length → W.frozen? ⟨B, j, none⟩ = false) ∧ B < W.heap.size
theorem CBox.keep {B : Nat} {cs : List Value} {W W' : World} {S : Nat → Prop} (hm : CBox B cs W) (hF : Fr S W W') (hS : ¬ S B) : CBox B cs W' :=
  ⟨fun j u hu => (hF.cell (p := ⟨B, j, none⟩) hm.2.2 hS).trans (hm.1 j u hu), fun j hj => (hF.frozen (p := ⟨B, j, none⟩) hm.2.2 hS).trans (hm.2.1 j hj), Nat.lt_of_lt_of_le hm.2.2 hF.size⟩
theorem CBox.below {B : Nat} {cs : List Value} {W W' : World} (hm : CBox B cs W) (hb : Below W.heap.size W W') : CBox B cs W' := hm.keep (Fr.of_all (S := fun _ => False) hb) (fun h => h)
theorem CBox.fresh (W : World) (cs : List Value) (t : TypeId) : CBox W.heap.size cs (W.alloc (.cells cs.toArray t)) := by
  have hc := heap_alloc_new W (.cells cs.toArray t)
  exact ⟨fun j u hu => by rw [cell_of_row _ _ _ _ _ _ hc]; simpa using hu, fun j _ => frozen_of_row _ _ _ _ _ hc, by rw [World.size_alloc]; omega⟩
theorem CBox.setO {B C k : Nat} {cs : List Value} {W : World} (hm : CBox B cs W) (hk : B ≠ C) (u : Value) : CBox B cs (W.setCell ⟨C, k, none⟩ u) :=
  hm.keep ((Fr.refl (fun i => i = C) W).setCell (p := ⟨C, k, none⟩) (fun _ => rfl) _) hk
theorem CBox.set {B : Nat} {cs : List Value} {W : World} (hm : CBox B cs W) (j : Nat) (u : Value) (hj : j < cs.length) : CBox B (cs.set j u) (W.setCell ⟨B, j, none⟩ u) := by
  refine ⟨fun i v hv => ?_, fun i hi => by rw [frozen_set]; exact hm.2.1 i (by rw [List.length_set] at hi; exact hi), by rw [World.size_setCell]; exact hm.2.2⟩
  by_cases hij : i = j
  · subst hij
    rw [List.getElem?_set_self hj] at hv
    injection hv with hv
    subst hv
    obtain ⟨u0, hu0⟩ : ∃ u0, cs[i]? = some u0 := ⟨_, List.getElem?_eq_getElem hj⟩
    exact cell_set_same _ _ _ _ (hm.1 i u0 hu0)
  · rw [List.getElem?_set_ne (fun e => hij e.symm)] at hv
    rw [World.cell?_setCell_other _ _ _ _ (by intro e; injection e with _ e _; exact hij e.symm)]
    exact hm.1 i v hv
theorem own_lo {W : World} {b b' : Nat} {e : TypeId} {sz n : Nat} {v : Value} {xs : List Value} (h : W.ownsRow b e sz v n xs) (hb : b' ≤ b) : W.ownsRow b' e sz v n xs := by
  obtain ⟨h1, h2⟩ := h
  refine ⟨h1, h2.imp id ?_⟩
  rintro ⟨g, cap, cur, a, hg, c⟩
  exact ⟨g, cap, cur, a, by omega, c⟩
theorem results_cell1 {fn : Func} {p : Tmp} {t : TypeId} (h : fn.results = #[.cell p t]) (tmps : Array Value) (P : Program) (W : World) (a : Addr) (x : Value) (ha : tmps.getD p undef = .pointer (some a))
    (hx : (loadVar t a).run P W = .ok x W) : (results fn tmps).run P W = .ok x W := by
  have ha' : tmps[p]?.getD undef = .pointer (some a) := by simpa using ha
  simp only [results, h]
  simp [ha', hx, asAddr]
section
variable {rb base : Nat} {s : RS} {h : Hd} {w : World} {M : Int} {N : Nat}
theorem Rf.cbox (H : Rf rb base s h w) : CBox rb (cells s h) w := ⟨(H.all .core).1, (H.all .core).2.1, H.rlt⟩
/-- The worlds of the giving up. -/
def gaveup (rb : Nat) (w : World) : World := (((w.setCell ⟨rb, 13, none⟩ nilv).setCell ⟨rb, 14, none⟩ (.bool false)).setCell ⟨rb, 15, none⟩ (.int .i64 0)).setCell ⟨rb, 16, none⟩ nilv
theorem part_giveup {p : Pt} {k : Nat} (hk : part rb { h with ov := nilv, mh := [], nv := nilv } p k) : part rb h p k := by
  cases p with
  | core => exact hk
  | msgs => exact absurd hk (by rintro ⟨⟩)
  | ents => obtain ⟨x, hx, _⟩ := hk; exact absurd hx List.not_mem_nil
  | need => exact absurd hk (by rintro ⟨⟩)
  | log => exact hk
  | snap => exact hk
  | map => exact hk
  | peers => exact hk
  | votes => exact hk
/-- What was told is given up. -/
theorem Rf.giveup (H : Rf rb base s h w) {W : World} (hb : Below w.heap.size w W) : Rf rb base s.fin { h with ov := nilv, mh := [], nv := nilv } (gaveup rb W) ∧ Fr (fun k => k = rb) W (gaveup rb W) := by
  have hF : Fr (fun k => k = rb) W (gaveup rb W) := fr_core2 (fr_core2 (fr_core2 (fr_core _ _ _ _) _ _) _ _) _ _
  have H := H.below hb
  have hC : CBox rb (cells s.fin { h with ov := nilv, mh := [], nv := nilv }) (gaveup rb W) := (((H.cbox.set 13 nilv (by show 13 < 17; omega)).set 14 (.bool false) (by show 14 < 17; omega)).set 15 (.int .i64 0) (by show 15 < 17; omega)).set 16 nilv (by show 16 < 17; omega)
  refine ⟨H.upd (fun p => p = .core ∨ p = .msgs ∨ p = .ents ∨ p = .need) (fun _ _ => False) hF (fun k hk p hp => .inl (H.dis _ _ k hp hk)) ?_ ?_ (fun p k hk => .inl ?_) (fun _ _ _ h => h.elim), hF⟩
  · rintro p (rfl | rfl | rfl | rfl)
    · exact ⟨hC.1, hC.2.1, (H.all .core).2.2⟩
    · exact ⟨World.ownsRow_nil _ _ _ _, rfl⟩
    · exact fun x hx => absurd hx List.not_mem_nil
    · exact World.ownsRow_nil _ _ _ _
  · intro p hp hh
    cases p with
    | core => exact absurd (.inl rfl) hp
    | msgs => exact absurd (.inr (.inl rfl)) hp
    | ents => exact absurd (.inr (.inr (.inl rfl))) hp
    | need => exact absurd (.inr (.inr (.inr rfl))) hp
    | log => exact hh
    | snap => exact hh
    | map => exact hh
    | peers => exact hh
    | votes => exact hh
  · exact part_giveup hk

set_option maxHeartbeats 2000000 in
set_option maxRecDepth 100000 in
theorem rf_done (H : Rf rb base s h w) (hnd : s.out.nd.length ≤ 1000000) :
    Calls Tryz.prog 51 #[.pointer (some ⟨rb, 0, none⟩)] w fun e w' => ∃ nv, e = .returned (.agg #[h.ov, .bool s.out.hd, .int .i64 s.out.fr, nv]) ∧ Rf rb base s.fin { h with ov := nilv, mh := [], nv := nilv } w' ∧ Fr (fun k => k = rb) w w' ∧ w'.ownsRow w.heap.size 3 1 nv (CL.nrm s.out.nd).length (rowOf ncells (CL.nrm s.out.nd)) := by
  have c13 : w.cell? ⟨rb, 13, none⟩ = some (h.ov) := H.cell 13 rfl
  have f13 : w.frozen? ⟨rb, 13, none⟩ = false := H.fz 13 (by omega)
  have c14 : w.cell? ⟨rb, 14, none⟩ = some (.bool s.out.hd) := H.cell 14 rfl
  have f14 : w.frozen? ⟨rb, 14, none⟩ = false := H.fz 14 (by omega)
  have c15 : w.cell? ⟨rb, 15, none⟩ = some (.int .i64 s.out.fr) := H.cell 15 rfl
  have f15 : w.frozen? ⟨rb, 15, none⟩ = false := H.fz 15 (by omega)
  have c16 : w.cell? ⟨rb, 16, none⟩ = some (h.nv) := H.cell 16 rfl
  have f16 : w.frozen? ⟨rb, 16, none⟩ = false := H.fz 16 (by omega)
  have HH := Lib.hid H
  have hrl := H.rlt
  obtain ⟨p1, c1, sov⟩ := owns_slice (H.all .msgs).1
  obtain ⟨p2, c2, hv2⟩ := owns_slice (H.all .need)
  have hnr := H.all .need
  dsimp only [holds] at hnr
  rw [hv2] at hnr
  have HNR := Lib.hid hnr
  have HNB := Lib.hid (show ∀ k, (Value.slice p2 s.out.nd.length c2).ownBlock = some k → ¬ k = rb from fun k hk e => by rw [← hv2] at hk; have := H.dis .need .core k hk e; cases this)
  obtain ⟨nn, hnn⟩ : ∃ n, (CL.nrm s.out.nd).length = n := ⟨_, rfl⟩
  have HNN := Lib.hid hnn
  clear hnn hnr
  rw [sov] at c13
  rw [hv2] at c16
  rw [sov]
  generalize s.out.hd = x14 at *
  generalize s.out.fr = x15 at *
  clear H
  go_enter Tryz.func51, Tryz.ntmps51
  go_upto_region 2 with fail
  have X2 := CBox.fresh w [.slice none 0 0, .bool false, .int .i64 0, .slice none 0 0] 37
  have B2 := (Below.refl _ w).alloc (Nat.le_refl _) (.cells #[.slice none 0 0, .bool false, .int .i64 0, .slice none 0 0] 37)
  have hs2 : (w.alloc (.cells #[.slice none 0 0, .bool false, .int .i64 0, .slice none 0 0] 37)).heap.size = w.heap.size + 1 := World.size_alloc _ _
  have X3 := CBox.fresh (w.alloc (.cells #[.slice none 0 0, .bool false, .int .i64 0, .slice none 0 0] 37)) [.slice p1 h.mh.length c1, .bool x14, .int .i64 x15, .slice p2 s.out.nd.length c2] 37
  have B3 := B2.alloc B2.size (.cells #[.slice p1 h.mh.length c1, .bool x14, .int .i64 x15, .slice p2 s.out.nd.length c2] 37)
  have X2' := X2.below ((Below.refl _ (w.alloc (.cells #[.slice none 0 0, .bool false, .int .i64 0, .slice none 0 0] 37))).alloc (Nat.le_refl _) (.cells #[.slice p1 h.mh.length c1, .bool x14, .int .i64 x15, .slice p2 s.out.nd.length c2] 37))
  rw [hs2] at X3
  have d13 := (B3.cell (p := ⟨rb, 13, none⟩) hrl).trans c13
  have d14 := (B3.cell (p := ⟨rb, 14, none⟩) hrl).trans c14
  have d15 := (B3.cell (p := ⟨rb, 15, none⟩) hrl).trans c15
  have d16 := (B3.cell (p := ⟨rb, 16, none⟩) hrl).trans c16
  have e13 := (B3.frozen (p := ⟨rb, 13, none⟩) hrl).trans f13
  have e14 := (B3.frozen (p := ⟨rb, 14, none⟩) hrl).trans f14
  have e15 := (B3.frozen (p := ⟨rb, 15, none⟩) hrl).trans f15
  have e16 := (B3.frozen (p := ⟨rb, 16, none⟩) hrl).trans f16
  clear c13 c14 c15 c16 f13 f14 f15 f16 X2 B2
  dsimp only [List.toArray] at X2' X3
  generalize ((w.alloc (.cells #[.slice none 0 0, .bool false, .int .i64 0, .slice none 0 0] 37)).alloc (.cells #[.slice p1 h.mh.length c1, .bool x14, .int .i64 x15, .slice p2 s.out.nd.length c2] 37)) = W at *
  have hr2 : rb ≠ w.heap.size := Nat.ne_of_lt hrl
  have hr3 : rb ≠ w.heap.size + 1 := Nat.ne_of_lt (Nat.lt_succ_of_lt hrl)
  have HG := Lib.hid (HH.out.giveup B3)
  have HBW := Lib.hid B3
  have HHS := Lib.hid (Nat.le_refl w.heap.size)
  have HB0 := Lib.hid HH.out.bs
  have HFO : Hid (∀ k, Fo rb { h with ov := nilv, mh := [], nv := nilv } k → k < w.heap.size) := Lib.hid (fun k ⟨p, hp⟩ => (HH.out.lt ⟨p, part_giveup hp⟩).2)
  generalize hb2 : w.heap.size = b2 at hrl hs2 X3 X2' hr2 hr3 HHS HB0 HFO ⊢
  clear B3
  go_upto_region 3 with fail
  have X4 := ((((X3.setO (C := rb) (k := 13) hr3.symm nilv).setO (C := rb) (k := 14) hr3.symm (.bool false)).setO (C := rb) (k := 15) hr3.symm (.int .i64 0)).setO (C := rb) (k := 16) hr3.symm nilv)
  have X5 := ((((X2'.setO (C := rb) (k := 13) hr2.symm nilv).setO (C := rb) (k := 14) hr2.symm (.bool false)).setO (C := rb) (k := 15) hr2.symm (.int .i64 0)).setO (C := rb) (k := 16) hr2.symm nilv)
  change CBox _ _ (gaveup rb W) at X4 X5
  refine show Code.wp _ _ _ _ (gaveup rb W) from ?_
  have HO5 := Lib.hid (HG.out.2.owns (show W.ownsRow base _ _ _ _ _ from (Fr.of_all (S := fun _ => False) HBW.out).owns HNR.out (fun _ _ h => h)) HNB.out)
  have HF5 := Lib.hid (Fr.trans (Fr.of_all (S := fun k => k = rb) HBW.out) HG.out.2 (fun i hi _ => hi))
  have HR5 := Lib.hid HG.out.1
  clear d13 d14 d15 d16 e13 e14 e15 e16 X3 X2' HG HBW HNR HNB
  have XS5 := Lib.hid X4.2.2
  generalize gaveup rb W = W5 at *
  have HNO := Lib.hid (norm_ints p2 s.out.nd.length c2 s.out.nd W5 (RdI.of_own HO5.out rfl) hnd nn HNN.out)
  have c30 := X4.1 3 _ rfl
  have XX4 := Lib.hid X4
  have XX5 := Lib.hid X5
  clear X4 X5 HO5
  go_wp2_with fail
  with_reducible refine (HNO.out).mono ?_
  rintro e w6 ⟨q, d, rfl, ho6, hb6⟩
  have hle6 := hb6.size
  have hlt6 := XS5.out
  have HO6 := Lib.hid ho6
  have HF6 := Lib.hid (Fr.trans HF5.out (Fr.of_all (S := fun k => k = rb) hb6) (fun i hi _ => hi))
  have HR6 := Lib.hid (HR5.out.below hb6)
  have X6 := XX4.out.below hb6
  have X7 := XX5.out.below hb6
  have a0 := X6.1 0 _ rfl
  have a1 := X6.1 1 _ rfl
  have a2 := X6.1 2 _ rfl
  have a3 := X6.1 3 _ rfl
  have g3 := X6.2.1 3 (by show 3 < 4; omega)
  have t0 := X7.1 0 _ rfl
  have t1 := X7.1 1 _ rfl
  have t2 := X7.1 2 _ rfl
  have t3 := X7.1 3 _ rfl
  have u0 := X7.2.1 0 (by show 0 < 4; omega)
  have u1 := X7.2.1 1 (by show 1 < 4; omega)
  have u2 := X7.2.1 2 (by show 2 < 4; omega)
  have u3 := X7.2.1 3 (by show 3 < 4; omega)
  have hne : b2 + 1 ≠ b2 := by omega
  have hne' : b2 ≠ b2 + 1 := by omega
  clear ho6 hb6 X6 X7 HNO c30
  go_wp2_with fail
  have hF : Fr (fun k => k = b2 ∨ k = b2 + 1) w6 (((((w6.setCell { block := b2 + 1, off := 3 } (Value.slice q nn d)).setCell { block := b2, off := 0 } (Value.slice p1 h.mh.length c1)).setCell { block := b2, off := 1 } (Value.bool x14)).setCell { block := b2, off := 2 } (Value.int IntKind.i64 x15)).setCell { block := b2, off := 3 } (Value.slice q nn d)) :=
    (((((Fr.refl _ w6).setCell (p := ⟨b2 + 1, 3, none⟩) (fun _ => .inr rfl) _).setCell (p := ⟨b2, 0, none⟩) (fun _ => .inl rfl) _).setCell (p := ⟨b2, 1, none⟩) (fun _ => .inl rfl) _).setCell (p := ⟨b2, 2, none⟩) (fun _ => .inl rfl) _).setCell (p := ⟨b2, 3, none⟩) (fun _ => .inl rfl) _
  have hle := HF6.out.size
  refine bodyPost_ret (results_cell1 rfl _ _ _ ⟨b2, 0, none⟩ (.agg #[.slice p1 h.mh.length c1, .bool x14, .int .i64 x15, .slice q nn d]) rfl (by go_simp)) rfl ?_
  refine ⟨_, rfl, HR6.out.keep hF (fun k hk => ?_), Fr.trans HF6.out (hF.mono (T := fun k => b2 ≤ k) (fun k _ e => by show b2 ≤ k; rcases e with e | e <;> omega)) (fun i hi hl => ?_), ?_⟩
  · have := HFO.out k hk
    rintro (e | e) <;> omega
  · have : b2 ≤ i := hi
    omega
  · rw [HNN.out]
    refine own_lo (hF.owns HO6.out (fun g hg => ?_)) (by omega)
    have := (World.ownsRow.lt HO6.out g hg).1
    rintro (e | e) <;> omega
end
end RF
end Go.Proofs.YtaodldagmmephaaGreat

