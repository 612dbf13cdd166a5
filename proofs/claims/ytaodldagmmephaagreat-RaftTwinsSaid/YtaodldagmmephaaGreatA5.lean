/- Merged texts: ConfW ConfR AppR ConfN Rf0 GMap Rf1 Rf2 Rf3 Rf4. -/
import Derived.Test.YtaodldagmmephaaGreatA2
import Derived.Test.YtaodldagmmephaaGreatA1
import Derived.Laws.AppendOwnNone
import Derived.Lib.AppendZeros
import Derived.Test.YtaodldagmmephaaGreatA4
import Derived.Test.YtaodldagmmephaaGreatA0
import Derived.Test.YtaodldagmmephaaGreatA3
import Derived.Maps.OwnSet
import Derived.Maps.Keyed
import Derived.Maps.Views
import Derived.Lib.SlKeysI
import Derived.Test.YtaodldagmmephaaGreatLayD
/- conf: the contract of Won. -/
namespace Go.Proofs.YtaodldagmmephaaGreat
open Go.RowKit

namespace CL
theorem take_succ_el {l : List Int} {i : Nat} (h : i < l.length) : l.take (i + 1) = l.take i ++ [HL.el l i] := by
  rw [List.take_add_one]
  congr 1
  have h1 : l[i]? = some (HL.el l i) := HL.el_eq l i h
  rw [h1]
  rfl
theorem cnt_succ {l us : List Int} {i : Nat} (h : i < l.length) : cnt (l.take (i + 1)) us = cnt (l.take i) us + (if HL.el l i ∈ us then 1 else 0) := by
  rw [take_succ_el h]
  unfold cnt
  rw [List.filter_append, List.length_append]
  congr 1
  by_cases h1 : HL.el l i ∈ us <;> simp [h1]
end CL

set_option maxHeartbeats 1000000 in
set_option maxRecDepth 100000 in
theorem won_ints (p q : Option Addr) (n c k d : Nat) (zs us : List Int) (w : World) (h : RdI w w.heap.size p n zs) (h2 : RdI w w.heap.size q k us) (hn : n ≤ 1000) (hk : k ≤ 1000) :
    Calls Tryz.prog 98 #[.slice p n c, .slice q k d] w fun e w' => e = .returned (.bool (CL.won zs us)) ∧ Below w.heap.size w w' := by
  obtain ⟨N, hN⟩ : ∃ N, (CL.nrm zs).length = N := ⟨_, rfl⟩
  have hNn : N ≤ 1000 := by have := CL.nrm_length zs; have := h.1; omega
  have HR := Lib.hid h
  have HU := Lib.hid h2
  have HNN := Lib.hid hN
  clear h h2 hN
  go_enter Tryz.func98, Tryz.ntmps98
  go_wp2_with fail
  refine (norm_ints p n c zs w HR.out (by omega) N HNN.out).mono ?_
  rintro e w1 ⟨g, cap, rfl, ho, hb⟩
  have HA := Lib.hid (RdI.of_own ho HNN.out)
  have HB := Lib.hid hb
  have HU1 := Lib.hid ((HU.out.below hb).more hb.size)
  clear ho hb
  go_wp2
  go_loop [6, 8, 13] (fun cv _ iv => ∃ i : Nat, i ≤ N ∧ iv = .int .i64 i ∧ ∃ t : Nat, t ≤ i ∧ cv = .int .i64 t ∧ t = CL.cnt ((CL.nrm zs).take i) us) (fun _ _ iv => N - (intOf iv).toNat)
  case atStart => exact ⟨0, Nat.zero_le _, rfl, 0, Nat.le_refl _, rfl, by simp [CL.cnt]⟩
  case round =>
    obtain ⟨i, hi, rfl, t, hti, rfl, ht⟩ := hrel
    have HT := Lib.hid ht
    clear ht
    by_cases hlt : i < N
    · obtain ⟨b, o, hp, _, hcs⟩ := HA.out.2 (by omega)
      have hcell := hcs i hlt
      clear hcs
      subst hp
      have HCS := Lib.hid (CL.cnt_succ (l := CL.nrm zs) (us := us) (i := i) (by rw [HNN.out]; exact hlt))
      have HHAS := Lib.hid (has_ints q k d _ us (HL.el (CL.nrm zs) i) w1 HU1.out (by omega))
      generalize hx : HL.el (CL.nrm zs) i = x at *
      clear hx
      by_cases hm : x ∈ us
      · have hd : decide (x ∈ us) = true := by simpa using hm
        rw [hd] at HHAS
        rw [if_pos hm] at HCS
        clear hm hd
        go_wp2_with fail
        refine HHAS.out.mono ?_
        rintro e w2 ⟨rfl, rfl⟩
        go_wp2
        go_round
        case rel => exact ⟨i + 1, by omega, by go_num, t + 1, by omega, by go_num, by rw [HCS.out, HT.out]⟩
        case measure => simp [intOf]; omega
      · have hd : decide (x ∈ us) = false := by simpa using hm
        rw [hd] at HHAS
        rw [if_neg hm] at HCS
        clear hm hd
        go_wp2_with fail
        refine HHAS.out.mono ?_
        rintro e w2 ⟨rfl, rfl⟩
        go_wp2
        go_round
        case rel => exact ⟨i + 1, by omega, by go_num, t, by omega, rfl, by rw [HCS.out, HT.out]; rfl⟩
        case measure => simp [intOf]; omega
    · have hiN : i = N := by omega
      subst hiN
      have HC : Hid (t = CL.cnt (CL.nrm zs) us) := by
        have e := HT.out
        rw [List.take_of_length_le (by rw [HNN.out]; exact Nat.le_refl _)] at e
        exact e
      clear HT
      have HW : Hid (CL.won zs us = (decide (0 < t) && decide (CL.quo i ≤ t))) := by
        have e : CL.won zs us = (decide (0 < CL.cnt (CL.nrm zs) us) && decide (CL.quo (CL.nrm zs).length ≤ CL.cnt (CL.nrm zs) us)) := rfl
        rw [← HC.out, HNN.out] at e
        exact e
      have HQ := Lib.hid (quorum_int i w1 (by omega))
      by_cases h0 : 0 < t
      · go_wp2_with fail
        refine HQ.out.mono ?_
        rintro e w2 ⟨rfl, rfl⟩
        generalize hq : CL.quo i = qq at *
        clear hq
        go_wp2
        go_ret
        exact ⟨by rw [HW.out]; simp [h0], HB.out⟩
      · go_wp2
        go_ret
        exact ⟨by rw [HW.out]; simp [h0], HB.out⟩
end Go.Proofs.YtaodldagmmephaaGreat

/- conf: the contract of Reached. -/
namespace Go.Proofs.YtaodldagmmephaaGreat
open Go.RowKit

theorem PileI.lt3 {pb base : Nat} {v : Value} {l : List Int} {w : World} (h : PileI pb base v l w) : ∀ k, pileF pb v k → k < w.heap.size := by
  rintro k (rfl | hk)
  · exact cell_lt h.1.1
  · exact (h.1.2.2.1.lt k hk).2

theorem PileI.ge3 {pb base : Nat} {v : Value} {l : List Int} {w : World} (h : PileI pb base v l w) (hb : base ≤ pb) : ∀ k, pileF pb v k → base ≤ k := by
  rintro k (rfl | hk)
  · exact hb
  · exact (h.1.2.2.1.lt k hk).1

/-- Put of one number, laid just ahead of the call. -/
theorem put_one (pb base : Nat) (v : Value) (l : List Int) (x : Int) (wr : World) (h : PileI pb base v l wr) (hb : base ≤ pb) (hn : l.length < 999998) :
    Calls Tryz.prog 127 #[.pointer (some ⟨pb, 0, none⟩), .slice (some ⟨wr.heap.size, 0, none⟩) 1 1] (wr.alloc (.cells #[.int .i64 x] 3)) fun e w' =>
      e = .returned (.tuple #[]) ∧ ∃ v' l', PileI pb base v' l' w' ∧ l'.Perm (l ++ [x]) ∧ Below base wr w' := by
  have hP1 := h.keep ((Fr.refl (fun _ => False) wr).alloc (.cells #[.int .i64 x] 3)) (fun _ _ h => h)
  have hr : RdI (wr.alloc (.cells #[.int .i64 x] 3)) (wr.alloc (.cells #[.int .i64 x] 3)).heap.size (some ⟨wr.heap.size, 0, none⟩) 1 [x] := rd_new wr [x] 3
  have hlt2 := h.lt3
  have hbs := h.1.2.2.2.2.2
  refine (pile_put pb base v l [x] _ 1 1 _ hP1 hr (fun b' o' e' _ hs => ?_) (by omega)).mono ?_
  · injection e' with e'
    injection e' with e' _
    have := hlt2 _ hs
    omega
  · rintro e w2 ⟨he, v2, l2, hP2, hp2, hF2, _⟩
    refine ⟨he, v2, l2, hP2, hp2, ((Below.refl base wr).alloc hbs _).trans (hF2.below (by simp; omega) (h.ge3 hb))⟩

namespace CL
/-- What a member has reached. -/
def val (ids ats : List Int) (x : Int) : Int :=
  if ids.findIdx (· == x) < ids.length ∧ ids.findIdx (· == x) < ats.length then HL.el ats (ids.findIdx (· == x)) else 0
def reached (zs ids ats : List Int) : Int :=
  if (nrm zs).length = 0 then 0 else HL.el (srt ((nrm zs).map (val ids ats))) ((nrm zs).length - quo (nrm zs).length)

theorem findIdx_first {ids : List Int} {x : Int} {k : Nat} (hk : k < ids.length) (hx : HL.el ids k = x) (hno : ∀ j, j < k → HL.el ids j ≠ x) : ids.findIdx (· == x) = k := by
  have he : ∀ j (h : j < ids.length), ids[j] = HL.el ids j := by
    intro j h
    have := HL.el_eq ids j h
    rw [List.getElem?_eq_getElem h] at this
    injection this
  rw [List.findIdx_eq hk]
  refine ⟨by rw [he k hk, hx]; simp, fun j hj => ?_⟩
  have hjl : j < ids.length := by omega
  rw [he j hjl]
  simpa using hno j hj
theorem findIdx_none {ids : List Int} {x : Int} (h : x ∉ ids) : ids.findIdx (· == x) = ids.length := by
  rw [List.findIdx_eq_length]
  intro y hy
  simp only [beq_eq_false_iff_ne, ne_eq]
  intro e
  exact h (e ▸ hy)
end CL

set_option maxHeartbeats 2000000 in
set_option maxRecDepth 100000 in
theorem reached_ints (p q r : Option Addr) (n c k d j f : Nat) (zs ids ats : List Int) (w : World) (h : RdI w w.heap.size p n zs) (h2 : RdI w w.heap.size q k ids) (h3 : RdI w w.heap.size r j ats) (hn : n ≤ 1000) (hk : k ≤ 1000) (hj : j ≤ 1000) :
    Calls Tryz.prog 113 #[.slice p n c, .slice q k d, .slice r j f] w fun e w' => e = .returned (.int .i64 (CL.reached zs ids ats)) ∧ Below w.heap.size w w' := by
  obtain ⟨N, hN⟩ : ∃ N, (CL.nrm zs).length = N := ⟨_, rfl⟩
  have hNn : N ≤ 1000 := by have := CL.nrm_length zs; have := h.1; omega
  have HR := Lib.hid h
  have HI := Lib.hid h2
  have HT := Lib.hid h3
  have HNN := Lib.hid hN
  clear h h2 h3 hN
  go_enter Tryz.func113, Tryz.ntmps113
  go_wp2_with fail
  refine (norm_ints p n c zs w HR.out (by omega) N HNN.out).mono ?_
  rintro e w1 ⟨g, cap, rfl, ho, hb⟩
  have HA := Lib.hid (RdI.of_own ho HNN.out)
  have HB := Lib.hid hb
  clear ho hb
  by_cases h0 : N = 0
  · subst h0
    go_wp2
    go_ret
    exact ⟨by unfold CL.reached; rw [if_pos HNN.out]; rfl, HB.out⟩
  · have hne : ((N : Int) == 0) = false := by rw [beq_eq_false_iff_ne]; omega
    go_wp2_with fail
    clear hne
    refine (pile_new none 0 0 [] w1 ⟨rfl, fun h => by omega⟩ (by omega)).mono ?_
    rintro e w2 ⟨pb, v, l, rfl, hpb, hP, hpp, hb2⟩
    have HST : Hid (∃ v l, PileI pb w1.heap.size v l w2 ∧ l.Perm (((CL.nrm zs).take 0).map (CL.val ids ats)) ∧ Below w1.heap.size w1 w2) := ⟨v, l, hP, by simpa using hpp, hb2⟩
    clear hP hpp hb2
    go_wp2
    go_loopw [10, 11, 20] (fun _ _ iv wr => ∃ i : Nat, i ≤ N ∧ iv = .int .i64 i ∧ ∃ v l, PileI pb w1.heap.size v l wr ∧ l.Perm (((CL.nrm zs).take i).map (CL.val ids ats)) ∧ Below w1.heap.size w1 wr) (fun _ _ iv _ => N - (intOf iv).toNat)
    case atStart => exact ⟨0, Nat.zero_le _, rfl, HST.out⟩
    case round =>
      clear HST
      obtain ⟨i, hi, rfl, v, l, hP, hpp, hbr⟩ := hrel
      have hBW : Below w.heap.size w wr := HB.out.trans (hbr.mono HB.out.size)
      have HII := Lib.hid (HI.out.below hBW)
      have HTT := Lib.hid (HT.out.below hBW)
      have HAA := Lib.hid (HA.out.below hbr)
      have HBR := Lib.hid hbr
      clear hBW
      by_cases hlt : i < N
      · obtain ⟨b, o, hp, _, hcs⟩ := HAA.out.2 (by omega)
        have hcell := hcs i hlt
        clear hcs
        subst hp
        have hlen : l.length < 999998 := by
          rw [hpp.length_eq, List.length_map, List.length_take]; omega
        have HTS := Lib.hid (CL.take_succ_el (l := CL.nrm zs) (i := i) (by rw [HNN.out]; exact hlt))
        have HIX := Lib.hid (index_ints q k d _ ids (HL.el (CL.nrm zs) i) wr HII.out (by omega))
        have HPO := Lib.hid (fun x => put_one pb _ v l x wr hP hpb hlen)
        have HPP := Lib.hid hpp
        clear hP hpp hlen hbr
        generalize hx : HL.el (CL.nrm zs) i = x at *
        clear hx
        have step : ∀ y w', CL.val ids ats x = y → (∃ v' l', PileI pb w1.heap.size v' l' w' ∧ l'.Perm (l ++ [y]) ∧ Below w1.heap.size wr w') →
            ∃ v l, PileI pb w1.heap.size v l w' ∧ l.Perm (((CL.nrm zs).take (i + 1)).map (CL.val ids ats)) ∧ Below w1.heap.size w1 w' := by
          rintro y w' hy ⟨v', l', hP', hp', hb'⟩
          refine ⟨v', l', hP', ?_, HBR.out.trans hb'⟩
          rw [HTS.out, List.map_append, List.map_cons, List.map_nil, hy]
          exact hp'.trans (HPP.out.append_right [y])
        have HSTEP := Lib.hid step
        clear step
        go_wp2_with fail
        refine HIX.out.mono ?_
        rintro e w3 ⟨rfl, ⟨m, rfl, hm, hmx, hno⟩ | ⟨rfl, hx⟩⟩
        · have HF := Lib.hid (CL.findIdx_first (by rw [HI.out.1]; exact hm) hmx hno)
          clear hmx hno
          by_cases hmj : m < j
          · obtain ⟨b2, o2, hp2, _, hcs2⟩ := HTT.out.2 (by omega)
            have hcell2 := hcs2 m hmj
            clear hcs2
            subst hp2
            have HV : Hid (CL.val ids ats x = HL.el ats m) := Lib.hid (by
              unfold CL.val
              rw [HF.out, if_pos ⟨by rw [HI.out.1]; exact hm, by rw [HT.out.1]; exact hmj⟩])
            have hl2 := cell_lt hcell2
            generalize hy : HL.el ats m = y at *
            clear hy
            go_wp2_with fail
            refine (HPO.out y).mono ?_
            rintro e w4 ⟨rfl, hS⟩
            have HS := Lib.hid (HSTEP.out y w4 HV.out hS)
            clear hS
            go_wp2
            go_roundw
            case rel => exact ⟨i + 1, by omega, by go_num, HS.out⟩
            case measure => simp [intOf]; omega
          · have HV : Hid (CL.val ids ats x = 0) := Lib.hid (by
              unfold CL.val
              rw [HF.out, if_neg (by rw [HT.out.1]; omega)])
            go_wp2_with fail
            refine (HPO.out 0).mono ?_
            rintro e w4 ⟨rfl, hS⟩
            have HS := Lib.hid (HSTEP.out 0 w4 HV.out hS)
            clear hS
            go_wp2
            go_roundw
            case rel => exact ⟨i + 1, by omega, by go_num, HS.out⟩
            case measure => simp [intOf]; omega
        · have HV : Hid (CL.val ids ats x = 0) := Lib.hid (by
            unfold CL.val
            rw [CL.findIdx_none hx, if_neg (by omega)])
          clear hx
          go_wp2_with fail
          refine (HPO.out 0).mono ?_
          rintro e w4 ⟨rfl, hS⟩
          have HS := Lib.hid (HSTEP.out 0 w4 HV.out hS)
          clear hS
          go_wp2
          go_roundw
          case rel => exact ⟨i + 1, by omega, by go_num, HS.out⟩
          case measure => simp [intOf]; omega
      · have hiN : i = N := by omega
        subst hiN
        have hl : l.length = i := by rw [hpp.length_eq, List.length_map, List.length_take, HNN.out, Nat.min_self]
        have hl' : (CL.srt ((CL.nrm zs).map (CL.val ids ats))).length = i := by rw [CL.srt_length, List.length_map, HNN.out]
        have HPL : Hid (Calls Tryz.prog 119 #[.pointer (some ⟨pb, 0, none⟩)] wr fun e w' => ∃ u c, e = .returned (.slice u i c) ∧ RdI w' w'.heap.size u i (CL.srt ((CL.nrm zs).map (CL.val ids ats))) ∧ Below wr.heap.size wr w') := by
          refine (pile_list pb _ v l wr hP).mono ?_
          rintro e w' ⟨u, rfl, ho, hb'⟩
          obtain ⟨u1, c1, rfl⟩ := owns_slice ho
          rw [CL.srt_of_perm hpp, List.take_of_length_le (by rw [HNN.out]; exact Nat.le_refl _)] at ho
          rw [hl] at ho ⊢
          exact ⟨u1, c1, rfl, RdI.of_own ho hl', hb'⟩
        have HL' := Lib.hid hl'
        clear hP hpp hl hl' hbr
        go_wp2_with fail
        refine HPL.out.mono ?_
        rintro e w5 ⟨u, c5, rfl, hr5, hb5⟩
        have HR5 := Lib.hid hr5
        have HB5 : Hid (Below w.heap.size w w5) := HB.out.trans ((HBR.out.trans (hb5.mono HBR.out.size)).mono HB.out.size)
        clear hr5 hb5
        have HQ := Lib.hid (quorum_int i w5 (by omega))
        go_wp2_with fail
        refine HQ.out.mono ?_
        rintro e w6 ⟨rfl, rfl⟩
        have hq1 := CL.quo_le i
        have hq2 : 1 ≤ CL.quo i := by unfold CL.quo; rw [if_neg (by omega)]; omega
        have HRE : Hid (CL.reached zs ids ats = HL.el (CL.srt ((CL.nrm zs).map (CL.val ids ats))) (i - CL.quo i)) := Lib.hid (by
          unfold CL.reached
          rw [HNN.out, if_neg h0])
        obtain ⟨b6, o6, hp6, _, hcs6⟩ := HR5.out.2 (by omega)
        have hcell6 := hcs6 (i - CL.quo i) (by omega)
        clear hcs6
        subst hp6
        generalize hqq : CL.quo i = qq at *
        have e1 : IntKind.i64.wrap ((i : Int) - (qq : Int)) = ((i - qq : Nat) : Int) := by rw [IntWalk.i64_in _ ⟨by omega, by omega⟩]; omega
        generalize hy : HL.el (CL.srt ((CL.nrm zs).map (CL.val ids ats))) (i - qq) = y at *
        have HY := Lib.hid hy
        clear hy hqq
        go_wp2
        go_ret
        exact ⟨by rw [HRE.out]; rfl, HB5.out⟩
end Go.Proofs.YtaodldagmmephaaGreat

/- append(row, xs...) where the row is the call's own and xs is any slice of ints that reads. -/
namespace Go.Proofs.YtaodldagmmephaaGreat
open Go.RowKit

theorem rowOf_mapI (zs : List Int) : rowOf ncells zs = zs.map (Value.int .i64) := by
  induction zs with
  | nil => rfl
  | cons x zs ih => simp only [rowOf, List.flatMap_cons, List.map_cons] at *; rw [ih]; rfl

set_option maxRecDepth 100000 in
theorem append_rd {ops : Array Oper} {rest : List Oper} {o : Oper} {a : Act} {Q : Exit → Act → World → Prop} {w : World} (hgd : o.guard = none) (s x : Operand)
    (ho : o.op = .call { callee := .builtin .append, args := #[s, x], argTypes := #[32, 32] }) (base : Nat) (v : Value) (n : Nat) (xs : List Value) (hs : a.eval s = v) (hown : w.ownsRow base 3 1 v n xs)
    (p : Option Addr) (m c : Nat) (zs : List Int) (hx : a.eval x = .slice p m c) (hR : RdI w w.heap.size p m zs) (hp0 : p = none → c = 0) (hsm : n + m ≤ 1000000) (hbase : base ≤ w.heap.size)
    (h : ∀ v' w', w'.ownsRow base 3 1 v' (n + m) (xs ++ rowOf ncells zs) → w.grownBy w' v.ownBlock → wpList Tryz.prog ops Q rest (a.put o.dst v') w') : wpList Tryz.prog ops Q (o :: rest) a w := by
  obtain ⟨i0, hi0, hz0, hz1, hz2⟩ := info_parts info_int
  have hz := hR.1
  have hlen : (rowOf ncells zs).length = m * 1 := by rw [rowOf_length ncells ncells_length, hz]
  cases p with
  | none =>
    have h0 : m = 0 := by
      rcases Nat.eq_zero_or_pos m with h0 | h0
      · exact h0
      · obtain ⟨b, o, e, _⟩ := hR.2 h0; cases e
    have hc := hp0 rfl
    subst h0 hc
    have : zs = [] := List.eq_nil_of_length_eq_zero hz
    subst this
    refine wpList_append_own_none hgd s x _ ho base 3 i0 1 Tryz.underlying32 hi0 v n xs hs hown hx ?_
    refine h v w (by simpa [rowOf] using hown) ⟨rfl, rfl, rfl, Nat.le_refl _, fun _ _ _ => rfl⟩
  | some ad =>
    refine wpList_append_own w hgd s x _ ho base 3 i0 _ 1 8 Tryz.underlying32 hi0 hz0 hz1 hz2 rfl (by omega) v n xs hs hown ad m c (rowOf ncells zs) hx hlen ?_ rowOf_ncells_one (by unfold maxLen; omega) (by omega) hbase ?_
    · intro j u hu
      obtain ⟨hj, rfl⟩ := rowOf_ncells_get hu
      obtain ⟨b, o, e, hlt, hc⟩ := hR.2 (by omega)
      injection e with e
      subst e
      rw [add_at, ← hc j (by omega)]
    · intro v' w' h1 h2 _
      exact h v' w' h1 h2
end Go.Proofs.YtaodldagmmephaaGreat

/- slices.Grow of nil, slices.Concat of two rows of ints; conf: the contract of Near. -/
namespace Go.Proofs.YtaodldagmmephaaGreat
open Go.RowKit

set_option maxHeartbeats 1000000 in
set_option maxRecDepth 100000 in
theorem grow_nil (n : Nat) (w : World) (hn : n ≤ 100000) :
    Calls Tryz.prog 137 #[.slice none 0 0, .int .i64 n] w fun e w' => ∃ q c, e = .returned (.slice q 0 c) ∧ (q = none → c = 0) ∧ w'.ownsRow w.heap.size 3 1 (.slice q 0 c) 0 [] ∧ Below w.heap.size w w' := by
  obtain ⟨i0, hi0, hz0, hz1, hz2⟩ := info_parts info_int
  by_cases h0 : n = 0
  · subst h0
    go_enter Tryz.func137, Tryz.ntmps137
    go_wp2
    go_ret
    exact ⟨none, 0, rfl, fun _ => rfl, World.ownsRow_nil _ _ _ _, Below.refl _ _⟩
  · have hrz := fun ty => Lib.run_append_nil_zeros w 32 3 ty 3 i0 (.int .i64 0) .i64 .i64 Tryz.underlying32 Tryz.underlying3 hi0 hz0 n (by omega) (by omega) (by omega) (by rw [hz2]; omega)
    have HRZ := Lib.hid hrz
    have hpos : 0 < n := by omega
    clear hrz
    go_enter Tryz.func137, Tryz.ntmps137
    go_wp2_with (at_builtin; refine Lib.wpList_append_run _ rfl _ _ _ _ rfl _ _ rfl rfl _ _ (HRZ.out _) ?_)
    go_ret
    refine ⟨_, _, rfl, fun h => (by cases h), (World.ownsRow_made w _ _ (Nat.le_refl _) (grownCap_le_maxLen w n 0 3 (by unfold maxLen; omega)) ?_).drew, ((Below.refl _ w).alloc (Nat.le_refl _) _).drew⟩
    have := grownCap_ge w n 0 3
    simp [Builtin.zeroCells]
    omega

namespace CL
def cat (zs us : List Int) (i : Nat) : List Int := if i = 0 then [] else if i = 1 then zs else zs ++ us
def catLen (n m i : Nat) : Nat := if i = 0 then 0 else if i = 1 then n else n + m
end CL

set_option maxHeartbeats 1000000 in
set_option maxRecDepth 100000 in
theorem concat_two (nb : Nat) (p q : Option Addr) (n c m d : Nat) (zs us : List Int) (w : World) (h : RdI w w.heap.size p n zs) (h2 : RdI w w.heap.size q m us) (hp0 : p = none → c = 0) (hq0 : q = none → d = 0) (hn : n ≤ 1000) (hm : m ≤ 1000)
    (hc0 : w.cell? ⟨nb, 0, none⟩ = some (.slice p n c)) (hc1 : w.cell? ⟨nb, 1, none⟩ = some (.slice q m d)) :
    Calls Tryz.prog 124 #[.slice (some ⟨nb, 0, none⟩) 2 2] w fun e w' => ∃ g k, e = .returned (.slice g (n + m) k) ∧ w'.ownsRow w.heap.size 3 1 (.slice g (n + m) k) (n + m) (rowOf ncells (zs ++ us)) ∧ Below w.heap.size w w' := by
  have HZ := Lib.hid h
  have HU := Lib.hid h2
  have HP0 := Lib.hid hp0
  have HQ0 := Lib.hid hq0
  have hnb := cell_lt hc0
  clear h h2 hp0 hq0
  go_enter Tryz.func124, Tryz.ntmps124
  go_wp2
  go_loop [3, 5, 11] (fun sv _ iv => (iv = .int .i64 0 ∧ sv = .int .i64 0) ∨ (iv = .int .i64 1 ∧ sv = .int .i64 n) ∨ (iv = .int .i64 2 ∧ sv = .int .i64 ((n + m : Nat) : Int))) (fun _ _ iv => 2 - (intOf iv).toNat)
  case atStart => exact .inl ⟨rfl, rfl⟩
  case round =>
    rcases hrel with ⟨rfl, rfl⟩ | ⟨rfl, rfl⟩ | ⟨rfl, rfl⟩
    · go_wp2
      go_round
      case rel => exact .inr (.inl ⟨rfl, by go_num⟩)
      case measure => simp [intOf]
    · have e1 : IntKind.i64.wrap ((n : Int) + (m : Int)) = ((n + m : Nat) : Int) := by rw [IntWalk.i64_in _ ⟨by omega, by omega⟩]; omega
      go_wp2
      go_round
      case rel => exact .inr (.inr ⟨rfl, by go_num⟩)
      case measure => simp [intOf]
    · have HG := Lib.hid (grow_nil (n + m) w (by omega))
      go_wp2_with fail
      refine HG.out.mono ?_
      rintro e w1 ⟨g, k, rfl, _, ho, hb⟩
      have HST : Hid (∃ g k, Value.slice g 0 k = .slice g 0 k ∧ True) := ⟨g, k, rfl, trivial⟩
      have HO := Lib.hid ho
      have HB := Lib.hid hb
      clear ho hb HST
      go_wp2
      go_loopw [6, 8, 27] (fun sv _ iv wr => ∃ i : Nat, i ≤ 2 ∧ iv = .int .i64 i ∧ ∃ g k, sv = .slice g (CL.catLen n m i) k ∧ wr.ownsRow w.heap.size 3 1 (.slice g (CL.catLen n m i) k) (CL.catLen n m i) (rowOf ncells (CL.cat zs us i)) ∧ Below w.heap.size w wr) (fun _ _ iv _ => 2 - (intOf iv).toNat)
      case atStart => exact ⟨0, by omega, rfl, g, k, rfl, HO.out, HB.out⟩
      case round =>
        clear HO HB
        obtain ⟨i, hi, rfl, g, k, rfl, ho, hb⟩ := hrel
        have hbs := hb.size
        have hca := (hb.cell (p := ⟨nb, 0, none⟩) hnb).trans hc0
        have hcb := (hb.cell (p := ⟨nb, 1, none⟩) hnb).trans hc1
        have HO := Lib.hid ho
        have HB := Lib.hid hb
        clear ho hb
        have hcase : i = 0 ∨ i = 1 ∨ i = 2 := by omega
        rcases hcase with rfl | rfl | rfl
        · have HO0 : Hid (wr.ownsRow w.heap.size 3 1 (.slice g 0 k) 0 []) := HO.out
          have hl0 : CL.catLen n m 0 = 0 := rfl
          rw [hl0]
          clear HO hl0
          go_wp2_with (at_builtin; refine append_rd rfl _ _ rfl w.heap.size (.slice g 0 k) 0 [] rfl HO0.out p n c zs rfl ((HZ.out.below HB.out).more HB.out.size) HP0.out (by omega) HB.out.size ?_; intro v3 w3 hown3 hgr3
                       rw [Nat.zero_add, List.nil_append] at hown3
                       obtain ⟨p3, c3, rfl⟩ := owns_slice hown3
                       have HO3 := Lib.hid hown3
                       have HB3 := Lib.hid (HB.out.grown hgr3 HB.out.size (fun x hx => (HO0.out.lt x hx).1))
                       clear hown3 hgr3)
          go_roundw
          case rel => exact ⟨1, by omega, by go_num, p3, c3, rfl, HO3.out, HB3.out⟩
          case measure => simp [intOf]
        · have HO0 : Hid (wr.ownsRow w.heap.size 3 1 (.slice g n k) n (rowOf ncells zs)) := HO.out
          have hl0 : CL.catLen n m 1 = n := rfl
          rw [hl0]
          clear HO hl0
          go_wp2_with (at_builtin; refine append_rd rfl _ _ rfl w.heap.size (.slice g n k) n (rowOf ncells zs) rfl HO0.out q m d us rfl ((HU.out.below HB.out).more HB.out.size) HQ0.out (by omega) HB.out.size ?_; intro v3 w3 hown3 hgr3
                       obtain ⟨p3, c3, rfl⟩ := owns_slice hown3
                       have HO3 := Lib.hid hown3
                       have HB3 := Lib.hid (HB.out.grown hgr3 HB.out.size (fun x hx => (HO0.out.lt x hx).1))
                       clear hown3 hgr3)
          go_roundw
          case rel => exact ⟨2, by omega, by go_num, p3, c3, rfl, by have e := HO3.out; rw [← rowOf_append] at e; exact e, HB3.out⟩
          case measure => simp [intOf]
        · have HO0 : Hid (wr.ownsRow w.heap.size 3 1 (.slice g (n + m) k) (n + m) (rowOf ncells (zs ++ us))) := HO.out
          have hl0 : CL.catLen n m 2 = n + m := rfl
          rw [hl0]
          clear HO hl0
          go_wp2
          go_ret
          exact ⟨g, k, rfl, HO0.out, HB.out⟩

namespace CL
def odd (zs us l : List Int) : Nat := (l.filter (fun x => decide (x ∈ zs) != decide (x ∈ us))).length
def near (zs us : List Int) : Bool := decide (odd zs us (nrm (zs ++ us)) = 1)
theorem odd_succ {zs us l : List Int} {i : Nat} (h : i < l.length) : odd zs us (l.take (i + 1)) = odd zs us (l.take i) + (if (decide (HL.el l i ∈ zs) != decide (HL.el l i ∈ us)) = true then 1 else 0) := by
  rw [take_succ_el h]
  unfold odd
  rw [List.filter_append, List.length_append]
  congr 1
  by_cases h1 : (decide (HL.el l i ∈ zs) != decide (HL.el l i ∈ us)) = true
  · rw [if_pos h1, List.filter_cons, if_pos h1]; rfl
  · rw [if_neg h1, List.filter_cons, if_neg h1]; rfl
end CL

set_option maxHeartbeats 1000000 in
set_option maxRecDepth 100000 in
theorem near_ints (p q : Option Addr) (n c m d : Nat) (zs us : List Int) (w : World) (h : RdI w w.heap.size p n zs) (h2 : RdI w w.heap.size q m us) (hp0 : p = none → c = 0) (hq0 : q = none → d = 0) (hn : n ≤ 1000) (hm : m ≤ 1000) :
    Calls Tryz.prog 104 #[.slice p n c, .slice q m d] w fun e w' => e = .returned (.bool (CL.near zs us)) ∧ Below w.heap.size w w' := by
  obtain ⟨N, hN⟩ : ∃ N, (CL.nrm (zs ++ us)).length = N := ⟨_, rfl⟩
  have hNn : N ≤ 2000 := by have := CL.nrm_length (zs ++ us); rw [List.length_append, h.1, h2.1] at this; omega
  have HNN := Lib.hid hN
  have HZ := Lib.hid h
  have HU := Lib.hid h2
  have HP0 := Lib.hid hp0
  have HQ0 := Lib.hid hq0
  clear h h2 hN hp0 hq0
  go_enter Tryz.func104, Tryz.ntmps104
  have hb0 : Below w.heap.size w (w.alloc (.cells #[.slice p n c, .slice q m d] 32)) := (Below.refl _ w).alloc (Nat.le_refl _) _
  have HCC := Lib.hid (concat_two w.heap.size p q n c m d zs us (w.alloc (.cells #[.slice p n c, .slice q m d] 32)) ((HZ.out.below hb0).more hb0.size) ((HU.out.below hb0).more hb0.size) HP0.out HQ0.out hn hm (by go_simp) (by go_simp))
  have HB0 := Lib.hid hb0
  clear hb0
  go_wp2_with fail
  refine HCC.out.mono ?_
  rintro e w1 ⟨g, k, rfl, ho, hb1⟩
  have HR1 := Lib.hid (RdI.of_own ho (by rw [List.length_append, HZ.out.1, HU.out.1]))
  have HB1 : Hid (Below w.heap.size w w1) := HB0.out.trans (hb1.mono HB0.out.size)
  clear ho hb1 HCC
  have HNO := Lib.hid (norm_ints g (n + m) k (zs ++ us) w1 HR1.out (by omega) N HNN.out)
  go_wp2_with fail
  refine HNO.out.mono ?_
  rintro e w2 ⟨g2, k2, rfl, ho2, hb2⟩
  have HA := Lib.hid (RdI.of_own ho2 HNN.out)
  have HB2 : Hid (Below w.heap.size w w2) := HB1.out.trans (hb2.mono HB1.out.size)
  clear ho2 hb2 HNO
  have HZ2 := Lib.hid (HZ.out.below HB2.out)
  have HU2 := Lib.hid (HU.out.below HB2.out)
  go_wp2
  go_loop [5, 7, 14] (fun cv _ iv => ∃ i : Nat, i ≤ N ∧ iv = .int .i64 i ∧ ∃ t : Nat, t ≤ i ∧ cv = .int .i64 t ∧ t = CL.odd zs us ((CL.nrm (zs ++ us)).take i)) (fun _ _ iv => N - (intOf iv).toNat)
  case atStart => exact ⟨0, Nat.zero_le _, rfl, 0, Nat.le_refl _, rfl, by simp [CL.odd]⟩
  case round =>
    obtain ⟨i, hi, rfl, t, hti, rfl, ht⟩ := hrel
    have HT := Lib.hid ht
    clear ht
    by_cases hlt : i < N
    · obtain ⟨b, o, hp, _, hcs⟩ := HA.out.2 (by omega)
      have hcell := hcs i hlt
      clear hcs
      subst hp
      have HCS := Lib.hid (CL.odd_succ (zs := zs) (us := us) (l := CL.nrm (zs ++ us)) (i := i) (by rw [HNN.out]; exact hlt))
      have HH1 := Lib.hid (has_ints p n c _ zs (HL.el (CL.nrm (zs ++ us)) i) w2 HZ2.out (by omega))
      have HH2 := Lib.hid (has_ints q m d _ us (HL.el (CL.nrm (zs ++ us)) i) w2 HU2.out (by omega))
      generalize hx : HL.el (CL.nrm (zs ++ us)) i = x at *
      clear hx
      generalize hb1 : decide (x ∈ zs) = b1 at *
      generalize hb2 : decide (x ∈ us) = b2 at *
      clear hb1 hb2
      go_wp2_with fail
      refine HH1.out.mono ?_
      rintro e w3 ⟨rfl, rfl⟩
      go_wp2_with fail
      refine HH2.out.mono ?_
      rintro e w4 ⟨rfl, rfl⟩
      cases b1 <;> cases b2
      · rw [if_neg (by decide)] at HCS
        go_wp2
        go_round
        case rel => exact ⟨i + 1, by omega, by go_num, t, by omega, rfl, by rw [HCS.out, HT.out]; rfl⟩
        case measure => simp [intOf]; omega
      · rw [if_pos (by decide)] at HCS
        go_wp2
        go_round
        case rel => exact ⟨i + 1, by omega, by go_num, t + 1, by omega, by go_num, by rw [HCS.out, HT.out]⟩
        case measure => simp [intOf]; omega
      · rw [if_pos (by decide)] at HCS
        go_wp2
        go_round
        case rel => exact ⟨i + 1, by omega, by go_num, t + 1, by omega, by go_num, by rw [HCS.out, HT.out]⟩
        case measure => simp [intOf]; omega
      · rw [if_neg (by decide)] at HCS
        go_wp2
        go_round
        case rel => exact ⟨i + 1, by omega, by go_num, t, by omega, rfl, by rw [HCS.out, HT.out]; rfl⟩
        case measure => simp [intOf]; omega
    · have hiN : i = N := by omega
      subst hiN
      have HC : Hid (CL.near zs us = decide (t = 1)) := Lib.hid (by
        have e := HT.out
        rw [List.take_of_length_le (by rw [HNN.out]; exact Nat.le_refl _)] at e
        unfold CL.near
        rw [← e])
      clear HT
      go_wp2
      go_ret
      refine ⟨?_, HB2.out⟩
      rw [HC.out]
      by_cases h1 : t = 1
      · subst h1; rfl
      · simp [h1]; omega
end Go.Proofs.YtaodldagmmephaaGreat

/- raft, plain: what a core is, and what each of its calls makes of it. -/
namespace Go.Proofs.YtaodldagmmephaaGreat
open Go.RowKit
namespace RF
/-- What a leader knows of another member. -/
structure Pr where
  nx : Int
  mt : Int
  rd : Int
/-- A message (what of it this layer uses). -/
structure Mg where
  kd : Int
  fr : Int
  tq : Int
  tm : Int
  ix : Int
  lt : Int
  cm : Int
  rd : Int
  ok : Bool
  en : List En
def mg0 : Mg := ⟨0, 0, 0, 0, 0, 0, 0, 0, false, []⟩
/-- What a call did. -/
structure Ot where
  ms : List Mg
  hd : Bool
  fr : Int
  nd : List Int
def ot0 : Ot := ⟨[], false, 0, []⟩
/-- A core. -/
structure RS where
  id : Int
  role : Int
  lead : Int
  term : Int
  vote : Int
  commit : Int
  elapsed : Int
  timeout : Int
  round : Int
  snap : List Int
  b : Int
  t : Int
  l : List En
  ps : List (Int × Pr)
  votes : List Int
  out : Ot

def RS.last (s : RS) : Int := (lastS s.b s.t s.l).1
def RS.mem (s : RS) (tq : Int) : List Int × Int := if 0 < (lmemV s.l tq).2 then lmemV s.l tq else (s.snap, s.b)
def RS.all (s : RS) : List Int := (s.mem s.last).1
def RS.others (s : RS) : List Int := s.all.filter fun x => !(x == s.id)
def RS.say (s : RS) (m : Mg) : RS := { s with out := { s.out with ms := s.out.ms ++ [{ m with fr := s.id, tm := s.term }] } }
def RS.changed (s : RS) (fr : Int) : RS := if s.out.fr = 0 ∨ fr < s.out.fr then { s with out := { s.out with fr := fr } } else s
def RS.put (s : RS) (e : En) : RS := { s with l := s.l ++ [e] }
def RS.add (s : RS) (kd : Int) (da : ByteArray) : RS := (s.put ⟨s.last + 1, s.term, kd, da⟩).changed (s.last + 1)
def pget (ps : List (Int × Pr)) (id : Int) : Option Pr := (ps.find? fun x => x.1 == id).map (·.2)
def pset (ps : List (Int × Pr)) (id : Int) (p : Pr) : List (Int × Pr) := ps.map fun x => if x.1 == id then (id, p) else x
/-- A peer is known. -/
def RS.know (s : RS) (id : Int) : RS := match pget s.ps id with
  | some _ => s
  | none => { s with ps := (id, ⟨s.last + 1, 0, 0⟩) :: s.ps }
/-- What is known of a peer (of one who is known). -/
def RS.pr (s : RS) (id : Int) : Pr := (pget s.ps id).getD ⟨0, 0, 0⟩
def RS.needs (s : RS) (id : Int) : RS := { s with out := { s.out with nd := s.out.nd ++ [id] } }
def RS.send1 (s : RS) (id : Int) : RS :=
  if (s.pr id).nx ≤ s.b then (s.needs id).say { mg0 with kd := 3, tq := id, cm := s.commit, rd := s.round, ix := s.b, lt := s.t }
  else s.say { mg0 with kd := 3, tq := id, cm := s.commit, rd := s.round, ix := (s.pr id).nx - 1, lt := (termS s.b s.t s.l ((s.pr id).nx - 1)).getD 0, en := sliceS s.b s.l (s.pr id).nx 8 }
def RS.send (s : RS) (id : Int) : RS := (s.know id).send1 id
def RS.sendAll (s : RS) : RS := s.others.foldl RS.send s
def RS.down (s : RS) (term : Int) : RS :=
  if s.term < term then { s with role := 0, lead := 0, term := term, vote := 0, out := { s.out with hd := true } } else { s with role := 0, lead := 0 }
def RS.knowAll (s : RS) (l : List Int) : RS := l.foldl RS.know s
def RS.far (s : RS) (own : Int) (of : Pr → Int) : Int :=
  CL.reached s.all (s.id :: s.others) (own :: s.others.map fun i => of ((s.knowAll s.others).pr i))
def RS.count1 (s : RS) (x : Int) : RS := if s.commit < x ∧ termS s.b s.t s.l x = some s.term then { s with commit := x, out := { s.out with hd := true } } else s
def RS.count2 (s : RS) : RS := if (atS s.b s.l (s.mem s.last).2).isSome ∧ (s.mem s.last).2 ≤ s.commit ∧ ¬ s.id ∈ s.all then s.down s.term else s
def RS.count (s : RS) : RS := ((s.knowAll s.others).count1 (s.far s.last Pr.mt)).count2
def RS.win1 (s : RS) : RS := { s with role := 2, lead := s.id, elapsed := 0, round := 0, ps := [] }
def RS.win (s : RS) : RS :=
  let a := (((s.win1).knowAll (s.win1).others).add 0 ⟨#[]⟩).count
  if a.role = 2 then a.sendAll else a
/-- The call is done. -/
def RS.fin (s : RS) : RS := { s with out := ot0 }
def RS.told (s : RS) : Ot := { s.out with nd := CL.nrm s.out.nd }
def drawn (d : Int) : Int := if d.tmod 10 < 0 then d.tmod 10 + 10 else d.tmod 10
def RS.stand1 (s : RS) (d : Int) : RS := { s with elapsed := 0, timeout := 10 + drawn d, term := s.term + 1, vote := s.id, out := { s.out with hd := true }, role := 1, lead := 0, votes := [s.id] }
def RS.askAll (s : RS) : RS := s.others.foldl (fun r i => r.say { mg0 with kd := 1, tq := i, ix := (lastS s.b s.t s.l).1, lt := (lastS s.b s.t s.l).2 }) s
def RS.stand (s : RS) (d : Int) : RS :=
  if CL.won (s.stand1 d).all (s.stand1 d).votes = true then (s.stand1 d).win else (s.stand1 d).askAll
def RS.tick1 (s : RS) : RS := { s with elapsed := min (s.elapsed + 1) 4611686018427387904 }
def RS.tick0 (s : RS) (d : Int) : RS :=
  if s.tick1.role = 2 then (if s.tick1.elapsed = 3 then ({ s.tick1 with elapsed := 0 } : RS).sendAll else s.tick1)
  else if s.tick1.id ∈ s.tick1.all ∧ s.tick1.timeout ≤ s.tick1.elapsed ∧ s.tick1.term < 1152921504606846976 then s.tick1.stand d else s.tick1
/-- Is something of the own term committed? -/
def RS.sure (s : RS) : Bool := decide (termS s.b s.t s.l s.commit = some s.term)
def RS.may (s : RS) (da : ByteArray) : Int := match gm da with
  | none => 1
  | some m => if validB m = false ∨ CL.near m s.all = false ∨ ¬ s.id ∈ m then 1
    else if s.commit < (lmemV s.l s.last).2 ∨ s.sure = false then 22 else 0
def RS.regard (s : RS) (next : Int) : RS :=
  s.others.foldl (fun r i => match pget r.ps i with
    | some _ => r
    | none => { r with ps := (i, ⟨next, 0, 0⟩) :: r.ps }) { s with ps := s.ps.filter fun x => decide (x.1 ∈ s.others) }
def RS.prop0 (s : RS) (kd : Int) (da : ByteArray) : RS :=
  let a := ((s.add kd da).regard (s.last + 1)).count
  if a.role = 2 then a.sendAll else a
/-- Why nothing is proposed (0: it is). -/
def RS.propE (s : RS) (kd : Int) (da : ByteArray) : Int :=
  if s.role ≠ 2 then 21
  else if (kd ≠ 1 ∧ kd ≠ 2) ∨ 2200 < da.size then 1
  else if 400 ≤ s.l.length then 10
  else if kd = 2 then s.may da else 0
def RS.askE (s : RS) : Int := if s.role ≠ 2 then 21 else if s.sure = false then 22 else 0
def RS.ask0 (s : RS) : RS := ({ s with round := min (s.round + 1) 4611686018427387904 } : RS).sendAll
def RS.acked (s : RS) : RS := s.knowAll s.others
def RS.ackedV (s : RS) : Int := s.far s.round Pr.rd
def RS.compact (s : RS) (tq : Int) : Option RS :=
  if s.commit < tq then none else (compS s.b s.t s.l tq).map fun tt => { s with snap := (s.mem tq).1, b := tq, t := tt, l := s.l.drop (tq - s.b).toNat }
def RS.restOk (s : RS) (ix tm : Int) (m : List Int) : Prop := s.role ≠ 2 ∧ s.commit < ix ∧ 0 ≤ tm ∧ tm ≤ s.term ∧ validB m = true
def RS.rest1 (s : RS) (ix tm : Int) : RS :=
  if (atS s.b s.l ix).map (·.tm) = some tm then (match compS s.b s.t s.l ix with
    | some tt => { s with b := ix, t := tt, l := s.l.drop (ix - s.b).toNat }
    | none => s)
  else { s with b := ix, t := tm, l := [] }
def RS.rest (s : RS) (ix tm : Int) (m : List Int) : RS :=
  ({ s.rest1 ix tm with snap := m, commit := ix, out := { (s.rest1 ix tm).out with hd := true } } : RS).changed (ix + 1)
def RS.late (s : RS) (m : Mg) : RS :=
  if m.kd = 1 then s.say { mg0 with kd := 2, tq := m.fr } else if m.kd = 3 then s.say { mg0 with kd := 4, tq := m.fr } else if m.kd = 5 then s.say { mg0 with kd := 6, tq := m.fr } else s
def RS.voteOk (s : RS) (m : Mg) : Bool := decide (s.vote = 0 ∨ s.vote = m.fr) && decide (s.role = 0) && newerS s.b s.t s.l m.ix m.lt
def RS.grant (s : RS) (m : Mg) : RS := { s with out := { s.out with hd := s.out.hd || !decide (s.vote = m.fr) }, vote := m.fr, elapsed := 0 }
def RS.voteReq (s : RS) (m : Mg) : RS := (if s.voteOk m = true then s.grant m else s).say { mg0 with kd := 2, tq := m.fr, ok := s.voteOk m }
def RS.voteRes1 (s : RS) (m : Mg) : RS := if m.fr ∈ s.votes then s else { s with votes := s.votes ++ [m.fr] }
def RS.voteRes (s : RS) (m : Mg) : RS :=
  if s.role ≠ 1 ∨ m.ok = false then s
  else if CL.won (s.voteRes1 m).all (s.voteRes1 m).votes = true then (s.voteRes1 m).win else s.voteRes1 m
def RS.follow (s : RS) (m : Mg) : RS := if s.role = 2 then s else { s with role := 0, lead := m.fr, elapsed := 0 }
def RS.appTo (s : RS) (m : Mg) (x : Int) : RS := if s.commit < min m.cm x then { s with commit := min m.cm x, out := { s.out with hd := true } } else s
def res (m : Mg) (ok : Bool) (ix : Int) : Mg := { mg0 with kd := 4, tq := m.fr, rd := m.rd, ok := ok, ix := ix }
def RS.appReq (s : RS) (m : Mg) : RS :=
  if m.ix < s.b then s.say (res m true s.commit)
  else if termS s.b s.t s.l m.ix ≠ some m.lt then s.say (res m false (max (min (m.ix - 1) s.last) 0))
  else if m.en.any (fun e => decide (m.tm < e.tm)) = true then s
  else if (mergeS s.b s.t s.l m.ix m.lt s.commit m.en).1.2 = false then s
  else
    let a : RS := { s with l := (mergeS s.b s.t s.l m.ix m.lt s.commit m.en).2 }
    let c := if 0 < (mergeS s.b s.t s.l m.ix m.lt s.commit m.en).1.1 then a.changed (mergeS s.b s.t s.l m.ix m.lt s.commit m.en).1.1 else a
    (c.appTo m (m.ix + (m.en.length : Int))).say (res m true (m.ix + (m.en.length : Int)))
def RS.setPr (s : RS) (id : Int) (p : Pr) : RS := { s with ps := pset s.ps id p }
/-- The round that a peer has answered. -/
def RS.heard (s : RS) (m : Mg) : Pr := if m.rd ≤ s.round then { s.pr m.fr with rd := max (s.pr m.fr).rd m.rd } else s.pr m.fr
def backS (p : Pr) (ix : Int) : Int := if ix < p.nx - 1 then min (ix + 1) (p.nx - 1) else p.nx - 1
def RS.appNo (s : RS) (m : Mg) : RS := (s.setPr m.fr { s.heard m with nx := max (max ((s.heard m).mt + 1) (backS (s.heard m) m.ix)) 1 }).send m.fr
def RS.appYes (s : RS) (m : Mg) : RS :=
  let a := (s.setPr m.fr { s.heard m with mt := max (s.heard m).mt m.ix, nx := max (s.heard m).nx (max (s.heard m).mt m.ix + 1) }).count
  if a.role = 2 ∧ (a.pr m.fr).nx ≤ a.last then a.send m.fr else a
def RS.appRes (s : RS) (m : Mg) : RS :=
  if s.role ≠ 2 ∨ ¬ m.fr ∈ s.others then s
  else
    let k := s.know m.fr
    if m.ok = true ∧ (m.ix < 0 ∨ s.last < m.ix) then k
    else if m.ok = false then k.appNo m else k.appYes m
def RS.heeds (s : RS) (m : Mg) : Prop := m.tq = s.id ∧ 1 ≤ m.fr ∧ m.fr ≤ 64 ∧ m.fr ≠ s.id ∧ 1 ≤ m.kd ∧ m.kd ≤ 6 ∧ 1 ≤ m.tm ∧ m.tm ≤ 1152921504606846976
def RS.turn (s : RS) (m : Mg) : RS := if s.term < m.tm then s.down m.tm else s
def RS.step1 (s : RS) (m : Mg) : RS :=
  if m.kd = 1 then s.voteReq m
  else if m.kd = 2 then s.voteRes m
  else if m.kd = 3 then (if s.role = 2 then s else (s.follow m).appReq m)
  else if m.kd = 4 then s.appRes m
  else if m.kd = 5 then s.follow m
  else s
def RS.step0 (s : RS) (m : Mg) : RS := if m.tm < s.term then s.late m else (s.turn m).step1 m
end RF
end Go.Proofs.YtaodldagmmephaaGreat

/- Maps with keys that are ints, as lists (of pairs; of keys). -/
namespace Go.Proofs.YtaodldagmmephaaGreat
open Go.RowKit Go.Maps

def IntM {H : Type} (D : DataW H) : Prop := ∃ es, D = .map es ∧ ∀ p ∈ es, ∃ x, p.1 = .int .i64 x
theorem key_lit (t : Int) : WideAt.IsKeyLit (.int .i64 t) := trivial
theorem key_ne {a b : Int} (h : a ≠ b) : (Lit.int .i64 a) ≠ .int .i64 b := fun e => h (by injection e)

section
variable {H : Type} {D : DataW H}
theorem mem_ins {x p : Lit × DataW H} : ∀ {l : List (Lit × DataW H)}, p ∈ DataW.insert x l → p = x ∨ p ∈ l
  | [], h => by
    simp only [DataW.insert, List.mem_singleton] at h
    exact .inl h
  | y :: r, h => by
    unfold DataW.insert at h
    split at h
    · rcases List.mem_cons.1 h with h | h
      · exact .inl h
      · exact .inr h
    · rcases List.mem_cons.1 h with h | h
      · exact .inr (by rw [h]; exact List.mem_cons_self)
      · exact (mem_ins h).imp id (List.mem_cons_of_mem _)
theorem IntM.put (h : IntM D) (t : Int) (d : DataW H) : IntM (D.put (.int .i64 t) d) := by
  obtain ⟨es, rfl, h⟩ := h
  refine ⟨_, rfl, fun p hp => ?_⟩
  rcases mem_ins hp with rfl | hp
  · exact ⟨t, rfl⟩
  · exact h p (List.mem_filter.1 hp).1
theorem IntM.del (h : IntM D) (k : Lit) : IntM (D.del k) := by
  obtain ⟨es, rfl, h⟩ := h
  exact ⟨_, rfl, fun p hp => h p (List.mem_filter.1 hp).1⟩

/-- D's keys are those of L. -/
structure SetR (L : List Int) (D : DataW H) : Prop where
  int : IntM D
  tidy : Tidy D
  mem : ∀ t, has D (.int .i64 t) = decide (t ∈ L)
  nodup : L.Nodup

def rid (t : Int) (L : List Int) : List Int := L.filter (fun x => !decide (x = t))
theorem mem_rid {t u : Int} {L : List Int} : u ∈ rid t L ↔ u ∈ L ∧ u ≠ t := by simp [rid]
theorem SetR.nil : SetR [] (.map [] : DataW H) := ⟨⟨[], rfl, fun _ h => by cases h⟩, tidy_empty, fun _ => rfl, List.nodup_nil⟩
theorem SetR.put {L : List Int} (h : SetR L D) (t : Int) (d : DataW H) : SetR (t :: rid t L) (D.put (.int .i64 t) d) := by
  refine ⟨h.int.put t d, h.tidy.put (key_lit t) d, fun u => ?_, List.nodup_cons.2 ⟨by simp [mem_rid], h.nodup.filter _⟩⟩
  by_cases e : u = t
  · subst e
    rw [has_put_same h.tidy.isMap (key_lit u)]
    simp
  · rw [has_put_other (key_ne e), h.mem u]
    simp [mem_rid, e]
theorem SetR.del {L : List Int} (h : SetR L D) (t : Int) : SetR (rid t L) (D.del (.int .i64 t)) := by
  refine ⟨h.int.del _, h.tidy.del _, fun u => ?_, h.nodup.filter _⟩
  by_cases e : u = t
  · subst e
    rw [has_del_same]
    simp [mem_rid]
  · rw [has_del_other (key_ne e), h.mem u]
    simp [mem_rid, e]
theorem SetR.keys {L : List Int} (h : SetR L D) : L.Perm (intKeys D) := by
  obtain ⟨es, rfl, hpw⟩ := h.tidy
  obtain ⟨es', e, hk⟩ := h.int
  injection e with e
  subst e
  exact perm_intKeys hpw hk h.nodup (fun x => by rw [h.mem x]; simp)
end

/-- How a value reads: as itself. -/
abbrev DP := DataW Value
def heldR (v : Value) : Option (DP × List MemPlace) := some (.held v, [])
/-- D is the map A. -/
structure MapR (A : List (Int × Value)) (D : DP) : Prop where
  set : SetR (A.map (·.1)) D
  val : ∀ t v z, (t, v) ∈ A → D.atKey (.int .i64 t) z = .held v
def ridA (t : Int) (A : List (Int × Value)) : List (Int × Value) := A.filter (fun x => !decide (x.1 = t))
theorem ridA_keys (t : Int) (A : List (Int × Value)) : (ridA t A).map (·.1) = rid t (A.map (·.1)) := by
  unfold ridA rid
  rw [List.filter_map]
  rfl
theorem mem_ridA {t : Int} {x : Int × Value} {A : List (Int × Value)} : x ∈ ridA t A ↔ x ∈ A ∧ x.1 ≠ t := by simp [ridA]
theorem MapR.nil : MapR [] (.map []) := ⟨SetR.nil, fun _ _ _ h => by cases h⟩
theorem MapR.put {A : List (Int × Value)} {D : DP} (h : MapR A D) (t : Int) (v : Value) : MapR ((t, v) :: ridA t A) (D.put (.int .i64 t) (.held v)) := by
  refine ⟨by rw [List.map_cons, ridA_keys]; exact h.set.put t _, fun u x z hx => ?_⟩
  rcases List.mem_cons.1 hx with e | hx
  · injection e with e1 e2
    subst e1 e2
    exact atKey_put_same h.set.tidy.isMap (key_lit _) _ _
  · obtain ⟨hx, hne⟩ := mem_ridA.1 hx
    rw [atKey_put_other (key_ne hne)]
    exact h.val u x z hx
theorem MapR.del {A : List (Int × Value)} {D : DP} (h : MapR A D) (t : Int) : MapR (ridA t A) (D.del (.int .i64 t)) := by
  refine ⟨by rw [ridA_keys]; exact h.set.del t, fun u x z hx => ?_⟩
  obtain ⟨hx, hne⟩ := mem_ridA.1 hx
  rw [atKey_del_other (key_ne hne)]
  exact h.val u x z hx

section
variable {w : World} {b n : Nat}
theorem keyedI : Go.Maps.Keyed Tryz.prog 3 := Go.Maps.int_keyed Tryz.underlying3
theorem key_of {t : Int} (ht : (Lit.int .i64 t).wf = true) : keyOf Tryz.prog 3 (.int .i64 t) = some (.int .i64 t) := by
  simp [keyOf, Tryz.underlying3, mapKey, ht]
theorem fr_turn {w' : World} (h : w.mapTurned w' b) : Fr (fun k => k = b) w w' := Fr.of_grown h.grown (fun i _ e => by cases e; rfl)
end
end Go.Proofs.YtaodldagmmephaaGreat

/- raft: how a core lies in memory; what stays, and how its parts are turned. -/
namespace Go.Proofs.YtaodldagmmephaaGreat
open Go.RowKit Go.Maps
namespace RF

/-- Where a core's parts lie. -/
structure Hd where
  xb : Nat
  lv : Value
  sv : Value
  mb : Nat
  vv : Value
  ov : Value
  mh : List (Mg × Value)
  nv : Value
  ph : List (Int × Pr × Nat)

def nilv : Value := .slice none 0 0
def mcells (x : Mg × Value) : List Value := [.int .i64 x.1.kd, .int .i64 x.1.fr, .int .i64 x.1.tq, .int .i64 x.1.tm, .int .i64 x.1.ix, .int .i64 x.1.lt, .int .i64 x.1.cm, .int .i64 x.1.rd, .bool x.1.ok, .bool false, x.2, .slice none 0 0, .int .i64 0, .slice none 0 0]
theorem mcells_length (x : Mg × Value) : (mcells x).length = 14 := rfl
def cells (s : RS) (h : Hd) : List Value := [.int .i64 s.id, .int .i64 s.role, .int .i64 s.lead, .int .i64 s.term, .int .i64 s.vote, .int .i64 s.commit, .int .i64 s.elapsed, .int .i64 s.timeout, .int .i64 s.round, h.sv, .pointer (some ⟨h.xb, 0, none⟩), .map (some h.mb), h.vv, h.ov, .bool s.out.hd, .int .i64 s.out.fr, h.nv]
theorem cells_length (s : RS) (h : Hd) : (cells s h).length = 17 := rfl

inductive Pt where
  | core
  | log
  | snap
  | map
  | peers
  | votes
  | msgs
  | ents
  | need

/-- The blocks of a part. -/
def part (rb : Nat) (h : Hd) : Pt → Nat → Prop
  | .core => fun k => k = rb
  | .log => lgF h.xb h.lv
  | .snap => fun k => h.sv.ownBlock = some k
  | .map => fun k => k = h.mb
  | .peers => fun k => ∃ x, x ∈ h.ph ∧ x.2.2 = k
  | .votes => fun k => h.vv.ownBlock = some k
  | .msgs => fun k => h.ov.ownBlock = some k
  | .ents => fun k => ∃ x, x ∈ h.mh ∧ x.2.ownBlock = some k
  | .need => fun k => h.nv.ownBlock = some k

def heldM (b n : Nat) (A : List (Int × Value)) (w : World) : Prop := ∃ D : DP, w.ownsMap Tryz.prog 3 heldR b n D ∧ MapR A D
theorem own_map_fr {H : Type} {k : TypeId} {R : Value → Option (DataW H × List MemPlace)} {b n : Nat} {D : DataW H} {S : Nat → Prop} {w w' : World} (h : w.ownsMap Tryz.prog k R b n D) (hF : Fr S w w') (hS : ¬ S b) : w'.ownsMap Tryz.prog k R b n D := by
  have hlt := h.lt
  obtain ⟨es, clock, hb, hr⟩ := h
  exact ⟨es, clock, (hF.block b hlt hS).trans hb, hr⟩
theorem heldM.keep {b n : Nat} {A : List (Int × Value)} {S : Nat → Prop} {w w' : World} (h : heldM b n A w) (hF : Fr S w w') (hS : ¬ S b) : heldM b n A w' := by
  obtain ⟨D, h, h2⟩ := h
  exact ⟨D, own_map_fr h hF hS, h2⟩
theorem heldM.lt {b n : Nat} {A : List (Int × Value)} {w : World} (h : heldM b n A w) : b < w.heap.size := by
  obtain ⟨D, h, _⟩ := h
  exact h.lt

/-- A peer's box. -/
def boxPr (x : Int × Pr × Nat) (w : World) : Prop := w.cell? ⟨x.2.2, 0, none⟩ = some (.int .i64 x.2.1.nx) ∧ w.cell? ⟨x.2.2, 1, none⟩ = some (.int .i64 x.2.1.mt) ∧ w.cell? ⟨x.2.2, 2, none⟩ = some (.int .i64 x.2.1.rd) ∧ ∀ k, k < 3 → w.frozen? ⟨x.2.2, k, none⟩ = false
def ptrs (ph : List (Int × Pr × Nat)) : List (Int × Value) := ph.map fun x => (x.1, .pointer (some ⟨x.2.2, 0, none⟩))

/-- A part lies as it should. -/
def holds (rb base : Nat) (s : RS) (h : Hd) (w : World) : Pt → Prop
  | .core => (∀ j u, (cells s h)[j]? = some u → w.cell? ⟨rb, j, none⟩ = some u) ∧ (∀ j, j < 17 → w.frozen? ⟨rb, j, none⟩ = false) ∧ base ≤ rb
  | .log => Lg h.xb base s.b s.t h.lv s.l w
  | .snap => w.ownsRow base 3 1 h.sv s.snap.length (rowOf ncells s.snap)
  | .map => heldM h.mb h.ph.length (ptrs h.ph) w ∧ base ≤ h.mb
  | .peers => (∀ x, x ∈ h.ph → boxPr x w ∧ base ≤ x.2.2) ∧ h.ph.map (fun x => (x.1, x.2.1)) = s.ps ∧ (h.ph.map (·.2.2)).Nodup
  | .votes => w.ownsRow base 3 1 h.vv s.votes.length (rowOf ncells s.votes)
  | .msgs => w.ownsRow base 48 14 h.ov h.mh.length (rowOf mcells h.mh) ∧ h.mh.map (·.1) = s.out.ms
  | .ents => ∀ x, x ∈ h.mh → w.ownsRow base 25 4 x.2 x.1.en.length (rowOf ecells x.1.en)
  | .need => w.ownsRow base 3 1 h.nv s.out.nd.length (rowOf ncells s.out.nd)

/-- A core in memory. -/
structure Rf (rb base : Nat) (s : RS) (h : Hd) (w : World) : Prop where
  all : ∀ p, holds rb base s h w p
  dis : ∀ p q k, part rb h p k → part rb h q k → p = q
  bs : base ≤ w.heap.size
/-- All its blocks. -/
def Fo (rb : Nat) (h : Hd) (k : Nat) : Prop := ∃ p, part rb h p k

section
variable {rb base : Nat} {s s' : RS} {h h' : Hd} {w w' : World}
theorem box_lt {x : Int × Pr × Nat} (hb : boxPr x w) : x.2.2 < w.heap.size := cell_lt hb.1
theorem part_lt {p : Pt} (H : holds rb base s h w p) : ∀ k, part rb h p k → base ≤ k ∧ k < w.heap.size := by
  cases p with
  | core => rintro k rfl; exact ⟨H.2.2, cell_lt (H.1 0 _ rfl)⟩
  | log => exact H.lt
  | snap => exact fun k hk => World.ownsRow.lt H k hk
  | map => rintro k rfl; exact ⟨H.2, H.1.lt⟩
  | peers => rintro k ⟨x, hx, rfl⟩; exact ⟨(H.1 x hx).2, box_lt (H.1 x hx).1⟩
  | votes => exact fun k hk => World.ownsRow.lt H k hk
  | msgs => exact fun k hk => World.ownsRow.lt H.1 k hk
  | ents => rintro k ⟨x, hx, hk⟩; exact World.ownsRow.lt (H x hx) k hk
  | need => exact fun k hk => World.ownsRow.lt H k hk
theorem holds_keep {p : Pt} (H : holds rb base s h w p) {S : Nat → Prop} (hF : Fr S w w') (hS : ∀ k, part rb h p k → ¬ S k) : holds rb base s h w' p := by
  have hl := part_lt H
  cases p with
  | core =>
    have h1 := hS rb rfl
    have h2 := (hl rb rfl).2
    exact ⟨fun j u hu => (hF.cell (p := ⟨rb, j, none⟩) h2 h1).trans (H.1 j u hu), fun j hj => (hF.frozen (p := ⟨rb, j, none⟩) h2 h1).trans (H.2.1 j hj), H.2.2⟩
  | log => exact Lg.keep H hF hS
  | snap => exact hF.owns H hS
  | map => exact ⟨H.1.keep hF (hS _ rfl), H.2⟩
  | peers =>
    refine ⟨fun x hx => ⟨?_, (H.1 x hx).2⟩, H.2⟩
    obtain ⟨a, b, c, d⟩ := (H.1 x hx).1
    have h1 := hS _ ⟨x, hx, rfl⟩
    have h2 := (hl _ ⟨x, hx, rfl⟩).2
    exact ⟨(hF.cell (p := ⟨x.2.2, 0, none⟩) h2 h1).trans a, (hF.cell (p := ⟨x.2.2, 1, none⟩) h2 h1).trans b, (hF.cell (p := ⟨x.2.2, 2, none⟩) h2 h1).trans c, fun k hk => (hF.frozen (p := ⟨x.2.2, k, none⟩) h2 h1).trans (d k hk)⟩
  | votes => exact hF.owns H hS
  | msgs => exact ⟨hF.owns H.1 hS, H.2⟩
  | ents => exact fun x hx => hF.owns (H x hx) (fun g hg => hS g ⟨x, hx, hg⟩)
  | need => exact hF.owns H hS

theorem Rf.lt (H : Rf rb base s h w) {k : Nat} (hk : Fo rb h k) : base ≤ k ∧ k < w.heap.size := by
  obtain ⟨p, hp⟩ := hk
  exact part_lt (H.all p) k hp
theorem Rf.keep (H : Rf rb base s h w) {S : Nat → Prop} (hF : Fr S w w') (hS : ∀ k, Fo rb h k → ¬ S k) : Rf rb base s h w' :=
  ⟨fun p => holds_keep (H.all p) hF (fun k hk => hS k ⟨p, hk⟩), H.dis, Nat.le_trans H.bs hF.size⟩
theorem Rf.below (H : Rf rb base s h w) (hb : Below w.heap.size w w') : Rf rb base s h w' := H.keep (Fr.of_all (S := fun _ => False) hb) (fun _ _ h => h)

/-- Some parts (T) are turned; N: whose blocks may be new. -/
theorem Rf.upd (H : Rf rb base s h w) (T : Pt → Prop) (N : Pt → Nat → Prop) {S : Nat → Prop} (hF : Fr S w w') (hS : ∀ k, S k → ∀ p, part rb h p k → T p)
    (hnew : ∀ p, T p → holds rb base s' h' w' p) (hold : ∀ p, ¬ T p → holds rb base s h w' p → holds rb base s' h' w' p)
    (hpart : ∀ p k, part rb h' p k → part rb h p k ∨ (N p k ∧ ∀ q, ¬ part rb h q k)) (hN : ∀ p q k, N p k → N q k → p = q) : Rf rb base s' h' w' := by
  refine ⟨fun p => ?_, fun p q k hp hq => ?_, Nat.le_trans H.bs hF.size⟩
  · by_cases hp : T p
    · exact hnew p hp
    · exact hold p hp (holds_keep (H.all p) hF (fun k hk hs => hp (hS k hs p hk)))
  · rcases hpart p k hp with h1 | ⟨h1, h1'⟩
    · rcases hpart q k hq with h2 | ⟨_, h2⟩
      · exact H.dis p q k h1 h2
      · exact absurd h1 (h2 p)
    · rcases hpart q k hq with h2 | ⟨h2, _⟩
      · exact absurd h2 (h1' q)
      · exact hN p q k h1 h2

/-- A cell of the core's own block is stored. -/
theorem Rf.set (H : Rf rb base s h w) (j : Nat) (u : Value) (hj : j < 17) (hc : cells s' h' = (cells s h).set j u) (hr : ∀ p, p ≠ .core → (∀ W, holds rb base s h W p → holds rb base s' h' W p) ∧ ∀ k, part rb h' p k → part rb h p k) : Rf rb base s' h' (w.setCell ⟨rb, j, none⟩ u) := by
  have hF : Fr (fun k => k = rb) w (w.setCell ⟨rb, j, none⟩ u) := (Fr.refl (fun k => k = rb) w).setCell (p := ⟨rb, j, none⟩) (fun _ => rfl) _
  have H0 := H.all .core
  refine H.upd (fun p => p = .core) (fun _ _ => False) hF (fun k hk p hp => H.dis _ _ k hp hk) (fun p hp => ?_) (fun p hp hh => (hr p hp).1 _ hh) (fun p k hk => .inl ?_) (fun _ _ _ h => h.elim)
  · subst hp
    refine ⟨fun i v hv => ?_, fun i hi => by rw [frozen_set]; exact H0.2.1 i hi, H0.2.2⟩
    rw [hc] at hv
    by_cases hij : i = j
    · subst hij
      rw [List.getElem?_set_self (by rw [cells_length]; exact hj)] at hv
      injection hv with hv
      subst hv
      obtain ⟨u0, hu0⟩ : ∃ u0, (cells s h)[i]? = some u0 := ⟨_, List.getElem?_eq_getElem (by rw [cells_length]; exact hj)⟩
      exact cell_set_same _ _ _ _ (H0.1 i u0 hu0)
    · rw [List.getElem?_set_ne (fun e => hij e.symm)] at hv
      rw [World.cell?_setCell_other _ _ _ _ (by intro e; injection e with _ e _; exact hij e.symm)]
      exact H0.1 i v hv
  · by_cases e : p = .core
    · subst e; exact hk
    · exact (hr p e).2 k hk
end
end RF
end Go.Proofs.YtaodldagmmephaaGreat

/- raft: what only reads: none, last, base, members, all, others. -/
namespace Go.Proofs.YtaodldagmmephaaGreat
open Go.RowKit Go.Shelf Go.Lib Go.Sort
namespace RF

/-- Bounds of a core: the last index is at most M, entries at most N. -/
structure RB (M : Int) (N : Nat) (s : RS) : Prop where
  id : 1 ≤ s.id ∧ s.id ≤ 64
  log : newOk s.b s.t s.l = true
  top : s.last ≤ M
  big : M ≤ 4503599627370496
  few : s.l.length ≤ N
  low : N ≤ 10000
  da : ∀ e ∈ s.l, e.da.size ≤ 2000000
  snap : CL.Valid s.snap
  ps : ∀ x ∈ s.ps, (1 ≤ x.1 ∧ x.1 ≤ 64) ∧ (1 ≤ x.2.nx ∧ x.2.nx ≤ M + 1) ∧ (0 ≤ x.2.mt ∧ x.2.mt ≤ M) ∧ (0 ≤ x.2.rd ∧ x.2.rd ≤ 4611686018427387904)
  nd : (s.ps.map (·.1)).Nodup
  term : 0 ≤ s.term ∧ s.term ≤ 1152921504606846976
  round : 0 ≤ s.round ∧ s.round ≤ 4611686018427387904
  commit : 0 ≤ s.commit ∧ s.commit ≤ M
  ltm : (lastS s.b s.t s.l).2 ≤ s.term

theorem follow_last : ∀ (l : List En) (b t : Int), followB b t l = true → (lastS b t l).1 = b + (l.length : Int)
  | [], b, t, _ => by simp [lastS]
  | e :: l, b, t, h => by
    have h1 := follow_ix (e :: l) b t l.length h (by simp)
    unfold lastS
    rw [if_neg (by simp)]
    show (HL.el (e :: l) ((e :: l).length - 1)).ix = _
    rw [show (e :: l).length - 1 = l.length by simp, h1]
    simp
    omega
theorem newOk_parts {b t : Int} {l : List En} (h : newOk b t l = true) : 0 ≤ b ∧ 0 ≤ t ∧ followB b t l = true := by
  unfold newOk at h
  simp only [Bool.and_eq_true, decide_eq_true_eq] at h
  exact h
section
variable {M : Int} {N : Nat} {s : RS}
theorem RB.lastE (h : RB M N s) : s.last = s.b + (s.l.length : Int) := follow_last _ _ _ (newOk_parts h.log).2.2
theorem RB.mem (h : RB M N s) (lim : Int) : CL.Valid (s.mem lim).1 := by
  unfold RS.mem
  split
  · rename_i h1
    unfold lmemV at h1 ⊢
    cases hm : lmem s.l lim with
    | none => rw [hm] at h1; exact absurd h1 (by simp)
    | some y =>
      unfold lmem at hm
      obtain ⟨e, _, he⟩ := List.exists_of_findSome?_eq_some hm
      unfold memOf at he
      split at he
      · rw [Option.map_eq_some_iff] at he
        obtain ⟨m, hm2, rfl⟩ := he
        exact gm_valid hm2
      · cases he
  · exact h.snap
theorem RB.all (h : RB M N s) : CL.Valid s.all := h.mem _
theorem RB.oth (h : RB M N s) : s.others.length ≤ 9 := Nat.le_trans (List.length_filter_le _ _) h.all.2.1
theorem RB.othId (h : RB M N s) : ∀ i ∈ s.others, 1 ≤ i ∧ i ≤ 64 ∧ i ≠ s.id := fun i hi => by
  obtain ⟨h1, h2⟩ := List.mem_filter.1 hi
  have h3 := h.all.id i h1
  unfold CL.isId at h3
  simp only [Bool.and_eq_true, decide_eq_true_eq] at h3
  exact ⟨h3.1, h3.2, by simpa using h2⟩
theorem RB.othUp (h : RB M N s) : CL.Up s.others := List.Pairwise.filter _ h.all.up
end

section
variable {rb base : Nat} {s : RS} {h : Hd} {w : World} {M : Int} {N : Nat}
theorem Rf.cell (H : Rf rb base s h w) (j : Nat) {u : Value} (hu : (cells s h)[j]? = some u) : w.cell? ⟨rb, j, none⟩ = some u := (H.all .core).1 j u hu
theorem Rf.fz (H : Rf rb base s h w) (j : Nat) (hj : j < 17) : w.frozen? ⟨rb, j, none⟩ = false := (H.all .core).2.1 j hj
theorem Rf.q (H : Rf rb base s h w) (j : Nat) {u : Value} (hu : (cells s h)[j]? = some u) : ∀ q : Later w, q.1.cell? ⟨rb, j, none⟩ = some u := fun q => (H.below q.2).cell j hu
theorem Rf.rlt (H : Rf rb base s h w) : rb < w.heap.size := cell_lt (H.cell 0 rfl)

set_option maxHeartbeats 2000000 in
set_option maxRecDepth 100000 in
theorem rf_none (H : Rf rb base s h w) : Calls Tryz.prog 46 #[.pointer (some ⟨rb, 0, none⟩)] w fun e w' => e = .returned (.bool false) ∧ w' = w := by
  have c := H.cell 10 rfl
  clear H
  go_enter Tryz.func46, Tryz.ntmps46
  go_wp2
  go_ret
  exact ⟨rfl, rfl⟩

set_option maxHeartbeats 2000000 in
set_option maxRecDepth 100000 in
theorem rf_last (H : Rf rb base s h w) : Calls Tryz.prog 94 #[.pointer (some ⟨rb, 0, none⟩)] w fun e w' => e = .returned (.int .i64 s.last) ∧ Below w.heap.size w w' := by
  have c := H.cell 10 rfl
  have HL := Lib.hid (lg_last (H.all .log))
  unfold RS.last
  generalize lastS s.b s.t s.l = x at *
  obtain ⟨x1, x2⟩ := x
  clear H
  go_enter Tryz.func94, Tryz.ntmps94
  go_wp2_with fail
  with_reducible refine (HL.out).mono ?_
  rintro e w1 ⟨rfl, hb1⟩
  have HB1 := Lib.hid hb1
  clear hb1 HL
  go_wp2
  go_ret
  exact ⟨rfl, HB1.out⟩

set_option maxHeartbeats 2000000 in
set_option maxRecDepth 100000 in
theorem rf_base (H : Rf rb base s h w) : Calls Tryz.prog 52 #[.pointer (some ⟨rb, 0, none⟩)] w fun e w' => e = .returned (.int .i64 s.b) ∧ Below w.heap.size w w' := by
  have c := H.cell 10 rfl
  have HL := Lib.hid (lg_base (H.all .log))
  clear H
  go_enter Tryz.func52, Tryz.ntmps52
  go_wp2_with fail
  with_reducible refine (HL.out).mono ?_
  rintro e w1 ⟨rfl, hb1⟩
  have HB1 := Lib.hid hb1
  clear hb1 HL
  go_wp2
  go_ret
  exact ⟨rfl, HB1.out⟩

set_option maxHeartbeats 2000000 in
set_option maxRecDepth 100000 in
theorem rf_members (lim : Int) (H : Rf rb base s h w) (hd : ∀ e ∈ s.l, e.da.size ≤ 2000000) : Calls Tryz.prog 86 #[.pointer (some ⟨rb, 0, none⟩), .int .i64 lim] w fun e w' => ∃ v', e = .returned (.tuple #[v', .int .i64 (s.mem lim).2]) ∧ w'.ownsRow base 3 1 v' (s.mem lim).1.length (rowOf ncells (s.mem lim).1) ∧ Below w.heap.size w w' := by
  have c := H.cell 10 rfl
  have HL := Lib.hid (lg_members lim (H.all .log) hd)
  have HH := Lib.hid H
  have HBS := Lib.hid H.bs
  unfold RS.mem
  generalize lmemV s.l lim = x at *
  obtain ⟨m, at'⟩ := x
  dsimp only at HL ⊢
  clear H hd
  by_cases hp : 0 < at'
  · rw [if_pos hp]
    have d1 : decide (0 < at') = true := decide_eq_true hp
    go_enter Tryz.func86, Tryz.ntmps86
    go_wp2_with fail
    with_reducible refine (HL.out).mono ?_
    rintro e w1 ⟨v1, rfl, ho1, hb1⟩
    obtain ⟨p1, c1, hv1⟩ := owns_slice ho1
    subst hv1
    have HB1 := Lib.hid hb1
    have HO1 := Lib.hid (owns_lowE ho1 HBS.out)
    clear hb1 HL ho1 hp
    go_wp2
    go_ret2
    exact ⟨_, rfl, HO1.out, HB1.out⟩
  · rw [if_neg hp]
    have d1 : decide (0 < at') = false := decide_eq_false hp
    have HO := Lib.hid (HH.out.all .snap)
    obtain ⟨p0, c0, hv0⟩ := owns_slice (HH.out.all .snap)
    have h9 := HH.out.q 9 rfl
    rw [hv0] at h9
    have HV := Lib.hid hv0
    have HBA := Lib.hid (fun w1 (hb : Below w.heap.size w w1) => rf_base (HH.out.below hb))
    go_enter Tryz.func86, Tryz.ntmps86
    go_wp2_with fail
    with_reducible refine (HL.out).mono ?_
    rintro e w1 ⟨v1, rfl, ho1, hb1⟩
    obtain ⟨p1, c1, hv1⟩ := owns_slice ho1
    subst hv1
    have HB1 := Lib.hid hb1
    have HBL : Hid (∀ q : Later w1, Calls Tryz.prog 52 #[.pointer (some ⟨rb, 0, none⟩)] q.1 fun e w' => e = .returned (.int .i64 s.b) ∧ Below q.1.heap.size q.1 w') := Lib.hid (fun q => HBA.out q.1 (HB1.out.trans (q.2.mono HB1.out.size)))
    have r9 : ∀ q : Later w1, q.1.cell? ⟨rb, 9, none⟩ = some (.slice p0 s.snap.length c0) := fun q => h9 ⟨q.1, HB1.out.trans (q.2.mono HB1.out.size)⟩
    clear hb1 HL ho1 hp h9 hv0
    go_wp2_with fail
    refine wp_region_later (by kernel_rfl) (by kernel_rfl) ?_
    repeat (go_big_quiet_step ((go_at_call 52; exact Calls.later_of (HBL.out _))))
    refine wpQuiet_nil ?_
    intro w3 hw'
    obtain ⟨⟨wq, hq⟩, hw''⟩ := hw'
    have hwe : w3 = wq := hw''
    clear hw''
    subst hwe
    have HB3 : Hid (Below w.heap.size w w3) := Lib.hid (HB1.out.trans (hq.mono HB1.out.size))
    clear r9 hq
    go_wp2
    go_ret2
    exact ⟨_, rfl, (by rw [← HV.out]; exact (Fr.of_all (S := fun _ => False) HB3.out).owns HO.out (fun _ _ h => h)), HB3.out⟩

set_option maxHeartbeats 2000000 in
set_option maxRecDepth 100000 in
theorem rf_all (H : Rf rb base s h w) (hd : ∀ e ∈ s.l, e.da.size ≤ 2000000) : Calls Tryz.prog 53 #[.pointer (some ⟨rb, 0, none⟩)] w fun e w' => ∃ v', e = .returned v' ∧ w'.ownsRow base 3 1 v' s.all.length (rowOf ncells s.all) ∧ Below w.heap.size w w' := by
  have HL := Lib.hid (rf_last H)
  have HM := Lib.hid (fun w1 (hb : Below w.heap.size w w1) => rf_members s.last (H.below hb) hd)
  unfold RS.all
  generalize s.last = la at *
  generalize s.mem la = x at *
  obtain ⟨m, at'⟩ := x
  dsimp only at HM ⊢
  clear H hd
  go_enter Tryz.func53, Tryz.ntmps53
  go_wp2_with fail
  with_reducible refine (HL.out).mono ?_
  rintro e w1 ⟨rfl, hb1⟩
  have HB1 := Lib.hid hb1
  have HM1 := Lib.hid (HM.out w1 hb1)
  clear hb1 HL HM
  go_wp2_with fail
  with_reducible refine (HM1.out).mono ?_
  rintro e w2 ⟨v2, rfl, ho2, hb2⟩
  obtain ⟨p2, c2, hv2⟩ := owns_slice ho2
  subst hv2
  have HB2 : Hid (Below w.heap.size w w2) := Lib.hid (HB1.out.trans (hb2.mono HB1.out.size))
  have HO2 := Lib.hid ho2
  clear hb2 ho2 HM1
  go_wp2
  go_ret
  exact ⟨_, rfl, HO2.out, HB2.out⟩
end
end RF
end Go.Proofs.YtaodldagmmephaaGreat

/- raft: the members but the node itself. -/
namespace Go.Proofs.YtaodldagmmephaaGreat
open Go.RowKit Go.Shelf Go.Lib Go.Sort

set_option maxRecDepth 100000 in
theorem oth_gives (id x : Int) (B rb : Nat) (W : World) (hc : W.cell? ⟨B, 0, none⟩ = some (.pointer (some ⟨rb, 0, none⟩))) (hr : W.cell? ⟨rb, 0, none⟩ = some (.int .i64 id)) :
    FnGives Tryz.prog 116 #[.pointer (some ⟨B, 0, none⟩)] #[.int .i64 x] (.bool (x == id)) W := by
  show Calls Tryz.prog 116 #[.int .i64 x, .pointer (some ⟨B, 0, none⟩)] W _
  go_enter Tryz.func116, Tryz.ntmps116
  go_wp2
  go_ret
  exact ⟨rfl, 0, rfl⟩

theorem oth_over (id : Int) (B rb blk off size : Nat) (w : World) (hB : B < w.heap.size) (hne : B ≠ blk) (hrn : rb ≠ blk) (hc : w.cell? ⟨B, 0, none⟩ = some (.pointer (some ⟨rb, 0, none⟩))) (hr : w.cell? ⟨rb, 0, none⟩ = some (.int .i64 id)) :
    PredOver Tryz.prog 116 #[.pointer (some ⟨B, 0, none⟩)] (Value.int .i64) (fun x => x == id) blk off size w :=
  fun n os dk x _ => oth_gives id x B rb _ (by
    unfold sortWorld
    rw [cell?_grow _ _ _ (by show B < (putRow _ _ _ _ _).heap.size; rw [size_putRow]; exact hB), cell?_putRow_other _ _ blk off _ _ (Or.inl hne)]
    exact hc) (by
    unfold sortWorld
    rw [cell?_grow _ _ _ (by show rb < (putRow _ _ _ _ _).heap.size; rw [size_putRow]; exact cell_lt hr), cell?_putRow_other _ _ blk off _ _ (Or.inl hrn)]
    exact hr)

theorem oth_own (base B rb : Nat) (id : Int) (v : Value) (zs : List Int) (w : World) (h0 : 0 < zs.length) (hn : zs.length ≤ 1000000) (ho : w.ownsRow base 3 1 v zs.length (rowOf ncells zs)) (hB : B < base) (hrb : rb < base) (hc : w.cell? ⟨B, 0, none⟩ = some (.pointer (some ⟨rb, 0, none⟩))) (hr : w.cell? ⟨rb, 0, none⟩ = some (.int .i64 id)) (N : Nat) (hN : (zs.filter (fun x => !(x == id))).length = N) :
    Calls Tryz.prog 115 #[v, .func (.func 116) #[] #[.pointer (some ⟨B, 0, none⟩)]] w fun e w' => ∃ q c, e = .returned (.slice q N c) ∧ w'.ownsRow base 3 1 (.slice q N c) N (rowOf ncells (zs.filter (fun x => !(x == id)))) ∧ w.grownBy w' v.ownBlock := by
  rw [rowOf_map] at ho
  rcases ho.2 with ⟨rfl, hz⟩ | ⟨gb, cap, cur, rfl, hbase, hgb, r1, r2, r3, r4⟩
  · omega
  · have hH : Holds (Value.int .i64) w gb 0 zs.toArray := holds_of_block_i hgb (by simpa using r4)
    have hgl : gb < w.heap.size := (Array.getElem?_eq_some_iff.1 hgb).1
    have hBl := cell_lt hc
    have hrl := cell_lt hr
    have hcon := AnyE.slices_DeleteFunc Tryz.layDelete (Value.int .i64) (fun _ => rfl) (fun x => x == id) 116 #[.pointer (some ⟨B, 0, none⟩)] (enters_of Tryz.func116 (by kernel_rfl) rfl) 0 Tryz.zeroValue3 gb 0 cap zs.toArray w
      (fun W x hb => oth_gives id x B rb W ((hb.cell (p := ⟨B, 0, none⟩) hBl).trans hc) ((hb.cell (p := ⟨rb, 0, none⟩) hrl).trans hr)) (oth_over id B rb gb 0 _ w hBl (by omega) (by omega) hc hr) hH (by simp; omega) (by simpa using r1)
    simp only [List.size_toArray] at hcon
    refine Calls.mono hcon ?_
    rintro e w' ⟨rfl, nn, rfl⟩
    rw [hN]
    have hcl : N ≤ zs.length := by rw [← hN]; exact List.length_filter_le _ _
    have h1 := ownsRow_sorted_i (n := nn) (os := #[]) (ss := zs) (ts := zs.filter (fun x => !(x == id)) ++ List.replicate (zs.length - N) 0) (by rw [List.length_append, hN, List.length_replicate]; omega) hbase hgb r1 r2 r3
    have h2 := grownBy_sorted_i (w := w) (g := gb) (n := nn) (os := #[]) (zs.filter (fun x => !(x == id)) ++ List.replicate (zs.length - N) 0).toArray
    have hg : ∀ W : World, grow W #[] = W := fun W => by simp [grow]
    rw [hg] at h1 h2
    refine ⟨_, cap, rfl, ?_, h2⟩
    have h3 := owns_cut h1 hcl
    rw [List.map_append, List.take_append_of_le_length (by simp [hN]), List.take_of_length_le (by simp [hN])] at h3
    rw [rowOf_map]
    exact h3
namespace RF
section
variable {rb base : Nat} {s : RS} {h : Hd} {w : World} {M : Int} {N : Nat}
set_option maxHeartbeats 2000000 in
set_option maxRecDepth 100000 in
theorem rf_others (H : Rf rb base s h w) (B : RB M N s) : Calls Tryz.prog 84 #[.pointer (some ⟨rb, 0, none⟩)] w fun e w' => ∃ q c, e = .returned (.slice q s.others.length c) ∧ w'.ownsRow w.heap.size 3 1 (.slice q s.others.length c) s.others.length (rowOf ncells s.others) ∧ Below w.heap.size w w' := by
  have hbx : Below w.heap.size w (w.alloc (.cells #[.pointer (some ⟨rb, 0, none⟩)] 26)) := (Below.refl _ w).alloc (Nat.le_refl _) _
  have HA := Lib.hid (rf_all (H.below hbx) B.da)
  have HH := Lib.hid H
  have hrl := H.rlt
  have hv := B.all
  have hv1 := hv.1
  have hv2 := hv.2.1
  unfold RS.others
  generalize s.all = zs at *
  obtain ⟨K, hK⟩ : ∃ K, K = (zs.filter (fun x => !(x == s.id))).length := ⟨_, rfl⟩
  have HK := Lib.hid hK.symm
  have HBX := Lib.hid hbx
  have HDL := Lib.hid (fun v w3 (ho : World.ownsRow w3 (w.heap.size + 1) 3 1 v zs.length (rowOf ncells zs)) hc hr => oth_own (w.heap.size + 1) w.heap.size rb s.id v zs w3 (by omega) (by omega) ho (by omega) (by omega) hc hr K HK.out)
  rw [← hK]
  clear H B hv hbx hK
  go_enter Tryz.func84, Tryz.ntmps84
  go_wp2_with fail
  with_reducible refine (HA.out).mono ?_
  rintro e w1 ⟨v1, rfl, ho1, hb1⟩
  obtain ⟨p1, c1, hv1⟩ := owns_slice ho1
  subst hv1
  have HC := Lib.hid (clone_ints p1 zs.length c1 zs w1 (RdI.of_own ho1 rfl) (by omega))
  have HB1 : Hid (Below (w.alloc (.cells #[.pointer (some ⟨rb, 0, none⟩)] 26)).heap.size (w.alloc (.cells #[.pointer (some ⟨rb, 0, none⟩)] 26)) w1) := Lib.hid hb1
  clear hb1 ho1 HA
  go_wp2_with fail
  with_reducible refine (HC.out).mono ?_
  rintro e w2 ⟨v2, rfl, ho2, hb2⟩
  obtain ⟨p2, c2, hv2⟩ := owns_slice ho2
  subst hv2
  have hsz : (w.alloc (.cells #[.pointer (some ⟨rb, 0, none⟩)] 26)).heap.size = w.heap.size + 1 := by simp
  have hb12 := HB1.out.trans (hb2.mono HB1.out.size)
  have hs1 : w.heap.size + 1 ≤ w1.heap.size := by have := HB1.out.size; omega
  have hcB : w2.cell? ⟨w.heap.size, 0, none⟩ = some (.pointer (some ⟨rb, 0, none⟩)) := (hb12.cell (p := ⟨w.heap.size, 0, none⟩) (by simp)).trans (Boxed.new w 26 (.pointer (some ⟨rb, 0, none⟩))).cell
  have hcr : w2.cell? ⟨rb, 0, none⟩ = some (.int .i64 s.id) := ((HBX.out.trans (hb12.mono (by simp))).cell (p := ⟨rb, 0, none⟩) hrl).trans (HH.out.cell 0 rfl)
  have HD := Lib.hid (HDL.out _ w2 (owns_lowE ho2 hs1) hcB hcr)
  have HB2 : Hid (Below w.heap.size w w2) := Lib.hid (HBX.out.trans (hb12.mono (by simp)))
  have HLO : Hid (∀ g, (Value.slice p2 zs.length c2).ownBlock = some g → w.heap.size ≤ g) := Lib.hid (fun g hg => by have := (ho2.lt g hg).1; omega)
  clear ho2 hb2 HC hsz hb12 hcB hcr hs1 HDL
  go_wp2_with fail
  with_reducible refine (HD.out).mono ?_
  rintro e w3 ⟨q, c, rfl, ho3, hg3⟩
  have HB3 : Hid (Below w.heap.size w w3) := Lib.hid (HB2.out.trans ((Fr.of_grown hg3 (S := fun k => (Value.slice p2 zs.length c2).ownBlock = some k) (fun _ _ h => h)).below HB2.out.size HLO.out))
  have HO3 := Lib.hid (owns_lowE ho3 (show w.heap.size ≤ w.heap.size + 1 by omega))
  clear ho3 hg3 HD
  go_wp2
  go_ret
  exact ⟨_, _, rfl, HO3.out, HB3.out⟩
end
end RF
end Go.Proofs.YtaodldagmmephaaGreat

/- raft: say, changed: what is told. -/
namespace Go.Proofs.YtaodldagmmephaaGreat
open Go.RowKit Go.Maps
namespace RF

/-- What the parts but the core's own block speak of. -/
def Same (s s' : RS) : Prop := s'.b = s.b ∧ s'.t = s.t ∧ s'.l = s.l ∧ s'.snap = s.snap ∧ s'.ps = s.ps ∧ s'.votes = s.votes ∧ s'.out.ms = s.out.ms ∧ s'.out.nd = s.out.nd
section
variable {rb base : Nat} {s : RS} {h : Hd} {w : World} {M : Int} {N : Nat}
theorem Same.holds {s s' : RS} (e : Same s s') {p : Pt} (hp : p ≠ .core) {W : World} (H : holds rb base s h W p) : holds rb base s' h W p := by
  obtain ⟨e1, e2, e3, e4, e5, e6, e7, e8⟩ := e
  cases p with
  | core => exact absurd rfl hp
  | log => show Lg h.xb base s'.b s'.t h.lv s'.l W; rw [e1, e2, e3]; exact H
  | snap => show World.ownsRow W base 3 1 h.sv s'.snap.length (rowOf ncells s'.snap); rw [e4]; exact H
  | map => exact H
  | peers => exact ⟨H.1, by rw [e5]; exact H.2.1, H.2.2⟩
  | votes => show World.ownsRow W base 3 1 h.vv s'.votes.length (rowOf ncells s'.votes); rw [e6]; exact H
  | msgs => exact ⟨H.1, by rw [e7]; exact H.2⟩
  | ents => exact H
  | need => show World.ownsRow W base 3 1 h.nv s'.out.nd.length (rowOf ncells s'.out.nd); rw [e8]; exact H
theorem Rf.put (H : Rf rb base s h w) (s' : RS) (j : Nat) (u : Value) (hj : j < 17) (hc : cells s' h = (cells s h).set j u) (hs : Same s s') : Rf rb base s' h (w.setCell ⟨rb, j, none⟩ u) :=
  H.set j u hj hc (fun _ hp => ⟨fun _ hh => hs.holds hp hh, fun _ hk => hk⟩)
theorem fr_core (w : World) (rb j : Nat) (u : Value) : Fr (fun k => k = rb) w (w.setCell ⟨rb, j, none⟩ u) := (Fr.refl (fun k => k = rb) w).setCell (p := ⟨rb, j, none⟩) (fun _ => rfl) _
theorem fr_core2 {W w : World} {rb : Nat} (h : Fr (fun k => k = rb) W w) (j : Nat) (u : Value) : Fr (fun k => k = rb) W (w.setCell ⟨rb, j, none⟩ u) := h.setCell (p := ⟨rb, j, none⟩) (fun _ => rfl) _
theorem same_refl (s : RS) : Same s s := ⟨rfl, rfl, rfl, rfl, rfl, rfl, rfl, rfl⟩

/-- A call's steps, part by part. -/
def PS (rb : Nat) (h h' : Hd) (w w' : World) : Prop := Fr (Fo rb h) w w' ∧ ∀ p k, part rb h' p k → part rb h p k ∨ w.heap.size ≤ k
theorem PS.refl (h : Hd) (w : World) : PS rb h h w w := ⟨Fr.refl _ _, fun _ _ h => .inl h⟩
theorem PS.trans {h h1 h2 : Hd} {w w1 w2 : World} (a : PS rb h h1 w w1) (b : PS rb h1 h2 w1 w2) : PS rb h h2 w w2 :=
  ⟨Fr.trans a.1 b.1 (fun i hi hl => by
    obtain ⟨p, hp⟩ := hi
    rcases a.2 p i hp with h | h
    · exact ⟨p, h⟩
    · omega), fun p k hk => by
    rcases b.2 p k hk with h | h
    · exact a.2 p k h
    · exact .inr (Nat.le_trans a.1.size h)⟩
theorem PS.still {h : Hd} {w w' : World} (hb : Below w.heap.size w w') : PS rb h h w w' := ⟨Fr.of_all hb, fun _ _ h => .inl h⟩
theorem PS.core {h : Hd} {w w' : World} (hf : Fr (fun k => k = rb) w w') : PS rb h h w w' := ⟨hf.mono (fun _ _ e => ⟨.core, e⟩), fun _ _ h => .inl h⟩

set_option maxHeartbeats 2000000 in
set_option maxRecDepth 100000 in
theorem rf_changed (fr : Int) (H : Rf rb base s h w) : Calls Tryz.prog 50 #[.pointer (some ⟨rb, 0, none⟩), .int .i64 fr] w fun e w' => e = .returned (.tuple #[]) ∧ Rf rb base (s.changed fr) h w' ∧ Fr (fun k => k = rb) w w' := by
  have c15 : w.cell? ⟨rb, 15, none⟩ = some (.int .i64 s.out.fr) := H.cell 15 rfl
  have f15 : w.frozen? ⟨rb, 15, none⟩ = false := H.fz 15 (by omega)
  have HH := Lib.hid H
  unfold RS.changed
  by_cases h0 : s.out.fr = 0
  · have d1 : (s.out.fr == 0) = true := by simp [h0]
    rw [if_pos (.inl h0)]
    have HP := Lib.hid (H.put { s with out := { s.out with fr := fr } } 15 (.int .i64 fr) (by omega) rfl (same_refl s))
    generalize s.out.fr = x at *
    clear H h0
    go_enter Tryz.func50, Tryz.ntmps50
    go_wp2
    go_end0
    exact ⟨rfl, HP.out, fr_core _ _ _ _⟩
  · have d1 : (s.out.fr == 0) = false := by simp [h0]
    by_cases h1 : fr < s.out.fr
    · have d2 : decide (fr < s.out.fr) = true := decide_eq_true h1
      rw [if_pos (.inr h1)]
      have HP := Lib.hid (H.put { s with out := { s.out with fr := fr } } 15 (.int .i64 fr) (by omega) rfl (same_refl s))
      generalize s.out.fr = x at *
      clear H h0 h1
      go_enter Tryz.func50, Tryz.ntmps50
      go_wp2
      go_end0
      exact ⟨rfl, HP.out, fr_core _ _ _ _⟩
    · have d2 : decide (fr < s.out.fr) = false := decide_eq_false h1
      rw [if_neg (fun h => h.elim h0 h1)]
      generalize s.out.fr = x at *
      clear H h0 h1
      go_enter Tryz.func50, Tryz.ntmps50
      go_wp2
      go_end0
      exact ⟨rfl, HH.out, Fr.refl _ _⟩

/-- A message's box. -/
def MBox (B : Nat) (x : Mg × Value) (W : World) : Prop := (∀ j u, (mcells x)[j]? = some u → W.cell? ⟨B, j, none⟩ = some u) ∧ ∀ j, j < 14 → W.frozen? ⟨B, j, none⟩ = false
theorem MBox.lt {B : Nat} {x : Mg × Value} {W : World} (hm : MBox B x W) : B < W.heap.size := cell_lt (hm.1 0 _ rfl)
theorem MBox.keep {B : Nat} {x : Mg × Value} {W W' : World} {S : Nat → Prop} (hm : MBox B x W) (hF : Fr S W W') (hS : ¬ S B) : MBox B x W' :=
  ⟨fun j u hu => (hF.cell (p := ⟨B, j, none⟩) hm.lt hS).trans (hm.1 j u hu), fun j hj => (hF.frozen (p := ⟨B, j, none⟩) hm.lt hS).trans (hm.2 j hj)⟩
theorem MBox.below {B : Nat} {x : Mg × Value} {W W' : World} (hm : MBox B x W) (hb : Below W.heap.size W W') : MBox B x W' := hm.keep (Fr.of_all (S := fun _ => False) hb) (fun h => h)
theorem MBox.fresh (W : World) (x : Mg × Value) : MBox W.heap.size x (W.alloc (.cells (mcells x).toArray 48)) := by
  have hc := heap_alloc_new W (.cells (mcells x).toArray 48)
  exact ⟨fun j u hu => by rw [cell_of_row _ _ _ _ _ _ hc]; simpa using hu, fun j _ => frozen_of_row _ _ _ _ _ hc⟩
theorem MBox.set {B : Nat} {x : Mg × Value} {W : World} (hm : MBox B x W) (y : Mg × Value) (j : Nat) (u : Value) (hj : j < 14) (hc : mcells y = (mcells x).set j u) : MBox B y (W.setCell ⟨B, j, none⟩ u) := by
  refine ⟨fun i v hv => ?_, fun i hi => by rw [frozen_set]; exact hm.2 i hi⟩
  rw [hc] at hv
  by_cases hij : i = j
  · subst hij
    rw [List.getElem?_set_self (by rw [mcells_length]; exact hj)] at hv
    injection hv with hv
    subst hv
    obtain ⟨u0, hu0⟩ : ∃ u0, (mcells x)[i]? = some u0 := ⟨_, List.getElem?_eq_getElem (by rw [mcells_length]; exact hj)⟩
    exact cell_set_same _ _ _ _ (hm.1 i u0 hu0)
  · rw [List.getElem?_set_ne (fun e => hij e.symm)] at hv
    rw [World.cell?_setCell_other _ _ _ _ (by intro e; injection e with _ e _; exact hij e.symm)]
    exact hm.1 i v hv
/-- A message as a value. -/
def mval (x : Mg × Value) : Value := .agg #[.int .i64 x.1.kd, .int .i64 x.1.fr, .int .i64 x.1.tq, .int .i64 x.1.tm, .int .i64 x.1.ix, .int .i64 x.1.lt, .int .i64 x.1.cm, .int .i64 x.1.rd, .bool x.1.ok, .bool false, x.2, .slice none 0 0, .int .i64 0, .slice none 0 0]
theorem info_msg : (Tryz.prog.info? 48).map (fun i => (i.zero, i.size, i.bytes)) = some (some (.agg #[.int .i64 0, .int .i64 0, .int .i64 0, .int .i64 0, .int .i64 0, .int .i64 0, .int .i64 0, .int .i64 0, .bool false, .bool false, .slice none 0 0, .slice none 0 0, .int .i64 0, .slice none 0 0]), 14, 152) := by kernel_rfl
end
end RF
end Go.Proofs.YtaodldagmmephaaGreat

