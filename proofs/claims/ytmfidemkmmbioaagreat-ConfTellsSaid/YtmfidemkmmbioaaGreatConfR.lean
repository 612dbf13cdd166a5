/- conf: the contract of Reached. -/
import Derived.Test.YtmfidemkmmbioaaGreatConfW
namespace Go.Proofs.YtmfidemkmmbioaaGreat
open Go.RowKit

theorem PileI.lt3 {pb base : Nat} {v : Value} {l : List Int} {w : World} (h : PileI pb base v l w) : ∀ k, pileF pb v k → k < w.heap.size := by
  rintro k (rfl | hk)
  · exact cell_lt h.1.1
  · exact (h.1.2.2.1.lt k hk).2

theorem PileI.ge3 {pb base : Nat} {v : Value} {l : List Int} {w : World} (h : PileI pb base v l w) (hb : base ≤ pb) : ∀ k, pileF pb v k → base ≤ k := by
  rintro k (rfl | hk)
  · exact hb
  · exact (h.1.2.2.1.lt k hk).1

/-- Put of one number, laid just ahead of the call. -/
theorem put_one (pb base : Nat) (v : Value) (l : List Int) (x : Int) (wr : World) (h : PileI pb base v l wr) (hb : base ≤ pb) (hn : l.length < 999998) :
    Calls Tryz.prog 38 #[.pointer (some ⟨pb, 0, none⟩), .slice (some ⟨wr.heap.size, 0, none⟩) 1 1] (wr.alloc (.cells #[.int .i64 x] 3)) fun e w' =>
      e = .returned (.tuple #[]) ∧ ∃ v' l', PileI pb base v' l' w' ∧ l'.Perm (l ++ [x]) ∧ Below base wr w' := by
  have hP1 := h.keep ((Fr.refl (fun _ => False) wr).alloc (.cells #[.int .i64 x] 3)) (fun _ _ h => h)
  have hr : RdI (wr.alloc (.cells #[.int .i64 x] 3)) (wr.alloc (.cells #[.int .i64 x] 3)).heap.size (some ⟨wr.heap.size, 0, none⟩) 1 [x] := rd_new wr [x] 3
  have hlt2 := h.lt3
  have hbs := h.1.2.2.2.2.2
  refine (pile_put pb base v l [x] _ 1 1 _ hP1 hr (fun b' o' e' _ hs => ?_) (by omega)).mono ?_
  · injection e' with e'
    injection e' with e' _
    have := hlt2 _ hs
    omega
  · rintro e w2 ⟨he, v2, l2, hP2, hp2, hF2, _⟩
    refine ⟨he, v2, l2, hP2, hp2, ((Below.refl base wr).alloc hbs _).trans (hF2.below (by simp; omega) (h.ge3 hb))⟩

namespace CL
/-- What a member has reached. -/
def val (ids ats : List Int) (x : Int) : Int :=
  if ids.findIdx (· == x) < ids.length ∧ ids.findIdx (· == x) < ats.length then HL.el ats (ids.findIdx (· == x)) else 0
def reached (zs ids ats : List Int) : Int :=
  if (nrm zs).length = 0 then 0 else HL.el (srt ((nrm zs).map (val ids ats))) ((nrm zs).length - quo (nrm zs).length)

theorem findIdx_first {ids : List Int} {x : Int} {k : Nat} (hk : k < ids.length) (hx : HL.el ids k = x) (hno : ∀ j, j < k → HL.el ids j ≠ x) : ids.findIdx (· == x) = k := by
  have he : ∀ j (h : j < ids.length), ids[j] = HL.el ids j := by
    intro j h
    have := HL.el_eq ids j h
    rw [List.getElem?_eq_getElem h] at this
    injection this
  rw [List.findIdx_eq hk]
  refine ⟨by rw [he k hk, hx]; simp, fun j hj => ?_⟩
  have hjl : j < ids.length := by omega
  rw [he j hjl]
  simpa using hno j hj
theorem findIdx_none {ids : List Int} {x : Int} (h : x ∉ ids) : ids.findIdx (· == x) = ids.length := by
  rw [List.findIdx_eq_length]
  intro y hy
  simp only [beq_eq_false_iff_ne, ne_eq]
  intro e
  exact h (e ▸ hy)
end CL

set_option maxHeartbeats 2000000 in
set_option maxRecDepth 100000 in
theorem reached_ints (p q r : Option Addr) (n c k d j f : Nat) (zs ids ats : List Int) (w : World) (h : RdI w w.heap.size p n zs) (h2 : RdI w w.heap.size q k ids) (h3 : RdI w w.heap.size r j ats) (hn : n ≤ 1000) (hk : k ≤ 1000) (hj : j ≤ 1000) :
    Calls Tryz.prog 20 #[.slice p n c, .slice q k d, .slice r j f] w fun e w' => e = .returned (.int .i64 (CL.reached zs ids ats)) ∧ Below w.heap.size w w' := by
  obtain ⟨N, hN⟩ : ∃ N, (CL.nrm zs).length = N := ⟨_, rfl⟩
  have hNn : N ≤ 1000 := by have := CL.nrm_length zs; have := h.1; omega
  have HR := Lib.hid h
  have HI := Lib.hid h2
  have HT := Lib.hid h3
  have HNN := Lib.hid hN
  clear h h2 h3 hN
  go_enter Tryz.func20, Tryz.ntmps20
  go_wp2_with fail
  refine (norm_ints p n c zs w HR.out (by omega) N HNN.out).mono ?_
  rintro e w1 ⟨g, cap, rfl, ho, hb⟩
  have HA := Lib.hid (RdI.of_own ho HNN.out)
  have HB := Lib.hid hb
  clear ho hb
  by_cases h0 : N = 0
  · subst h0
    go_wp2
    go_ret
    exact ⟨by unfold CL.reached; rw [if_pos HNN.out]; rfl, HB.out⟩
  · have hne : ((N : Int) == 0) = false := by rw [beq_eq_false_iff_ne]; omega
    go_wp2_with fail
    clear hne
    refine (pile_new none 0 0 [] w1 ⟨rfl, fun h => by omega⟩ (by omega)).mono ?_
    rintro e w2 ⟨pb, v, l, rfl, hpb, hP, hpp, hb2⟩
    have HST : Hid (∃ v l, PileI pb w1.heap.size v l w2 ∧ l.Perm (((CL.nrm zs).take 0).map (CL.val ids ats)) ∧ Below w1.heap.size w1 w2) := ⟨v, l, hP, by simpa using hpp, hb2⟩
    clear hP hpp hb2
    go_wp2
    go_loopw [10, 11, 20] (fun _ _ iv wr => ∃ i : Nat, i ≤ N ∧ iv = .int .i64 i ∧ ∃ v l, PileI pb w1.heap.size v l wr ∧ l.Perm (((CL.nrm zs).take i).map (CL.val ids ats)) ∧ Below w1.heap.size w1 wr) (fun _ _ iv _ => N - (intOf iv).toNat)
    case atStart => exact ⟨0, Nat.zero_le _, rfl, HST.out⟩
    case round =>
      clear HST
      obtain ⟨i, hi, rfl, v, l, hP, hpp, hbr⟩ := hrel
      have hBW : Below w.heap.size w wr := HB.out.trans (hbr.mono HB.out.size)
      have HII := Lib.hid (HI.out.below hBW)
      have HTT := Lib.hid (HT.out.below hBW)
      have HAA := Lib.hid (HA.out.below hbr)
      have HBR := Lib.hid hbr
      clear hBW
      by_cases hlt : i < N
      · obtain ⟨b, o, hp, _, hcs⟩ := HAA.out.2 (by omega)
        have hcell := hcs i hlt
        clear hcs
        subst hp
        have hlen : l.length < 999998 := by
          rw [hpp.length_eq, List.length_map, List.length_take]; omega
        have HTS := Lib.hid (CL.take_succ_el (l := CL.nrm zs) (i := i) (by rw [HNN.out]; exact hlt))
        have HIX := Lib.hid (index_ints q k d _ ids (HL.el (CL.nrm zs) i) wr HII.out (by omega))
        have HPO := Lib.hid (fun x => put_one pb _ v l x wr hP hpb hlen)
        have HPP := Lib.hid hpp
        clear hP hpp hlen hbr
        generalize hx : HL.el (CL.nrm zs) i = x at *
        clear hx
        have step : ∀ y w', CL.val ids ats x = y → (∃ v' l', PileI pb w1.heap.size v' l' w' ∧ l'.Perm (l ++ [y]) ∧ Below w1.heap.size wr w') →
            ∃ v l, PileI pb w1.heap.size v l w' ∧ l.Perm (((CL.nrm zs).take (i + 1)).map (CL.val ids ats)) ∧ Below w1.heap.size w1 w' := by
          rintro y w' hy ⟨v', l', hP', hp', hb'⟩
          refine ⟨v', l', hP', ?_, HBR.out.trans hb'⟩
          rw [HTS.out, List.map_append, List.map_cons, List.map_nil, hy]
          exact hp'.trans (HPP.out.append_right [y])
        have HSTEP := Lib.hid step
        clear step
        go_wp2_with fail
        refine HIX.out.mono ?_
        rintro e w3 ⟨rfl, ⟨m, rfl, hm, hmx, hno⟩ | ⟨rfl, hx⟩⟩
        · have HF := Lib.hid (CL.findIdx_first (by rw [HI.out.1]; exact hm) hmx hno)
          clear hmx hno
          by_cases hmj : m < j
          · obtain ⟨b2, o2, hp2, _, hcs2⟩ := HTT.out.2 (by omega)
            have hcell2 := hcs2 m hmj
            clear hcs2
            subst hp2
            have HV : Hid (CL.val ids ats x = HL.el ats m) := Lib.hid (by
              unfold CL.val
              rw [HF.out, if_pos ⟨by rw [HI.out.1]; exact hm, by rw [HT.out.1]; exact hmj⟩])
            have hl2 := cell_lt hcell2
            generalize hy : HL.el ats m = y at *
            clear hy
            go_wp2_with fail
            refine (HPO.out y).mono ?_
            rintro e w4 ⟨rfl, hS⟩
            have HS := Lib.hid (HSTEP.out y w4 HV.out hS)
            clear hS
            go_wp2
            go_roundw
            case rel => exact ⟨i + 1, by omega, by go_num, HS.out⟩
            case measure => simp [intOf]; omega
          · have HV : Hid (CL.val ids ats x = 0) := Lib.hid (by
              unfold CL.val
              rw [HF.out, if_neg (by rw [HT.out.1]; omega)])
            go_wp2_with fail
            refine (HPO.out 0).mono ?_
            rintro e w4 ⟨rfl, hS⟩
            have HS := Lib.hid (HSTEP.out 0 w4 HV.out hS)
            clear hS
            go_wp2
            go_roundw
            case rel => exact ⟨i + 1, by omega, by go_num, HS.out⟩
            case measure => simp [intOf]; omega
        · have HV : Hid (CL.val ids ats x = 0) := Lib.hid (by
            unfold CL.val
            rw [CL.findIdx_none hx, if_neg (by omega)])
          clear hx
          go_wp2_with fail
          refine (HPO.out 0).mono ?_
          rintro e w4 ⟨rfl, hS⟩
          have HS := Lib.hid (HSTEP.out 0 w4 HV.out hS)
          clear hS
          go_wp2
          go_roundw
          case rel => exact ⟨i + 1, by omega, by go_num, HS.out⟩
          case measure => simp [intOf]; omega
      · have hiN : i = N := by omega
        subst hiN
        have hl : l.length = i := by rw [hpp.length_eq, List.length_map, List.length_take, HNN.out, Nat.min_self]
        have hl' : (CL.srt ((CL.nrm zs).map (CL.val ids ats))).length = i := by rw [CL.srt_length, List.length_map, HNN.out]
        have HPL : Hid (Calls Tryz.prog 28 #[.pointer (some ⟨pb, 0, none⟩)] wr fun e w' => ∃ u c, e = .returned (.slice u i c) ∧ RdI w' w'.heap.size u i (CL.srt ((CL.nrm zs).map (CL.val ids ats))) ∧ Below wr.heap.size wr w') := by
          refine (pile_list pb _ v l wr hP).mono ?_
          rintro e w' ⟨u, rfl, ho, hb'⟩
          obtain ⟨u1, c1, rfl⟩ := owns_slice ho
          rw [CL.srt_of_perm hpp, List.take_of_length_le (by rw [HNN.out]; exact Nat.le_refl _)] at ho
          rw [hl] at ho ⊢
          exact ⟨u1, c1, rfl, RdI.of_own ho hl', hb'⟩
        have HL' := Lib.hid hl'
        clear hP hpp hl hl' hbr
        go_wp2_with fail
        refine HPL.out.mono ?_
        rintro e w5 ⟨u, c5, rfl, hr5, hb5⟩
        have HR5 := Lib.hid hr5
        have HB5 : Hid (Below w.heap.size w w5) := HB.out.trans ((HBR.out.trans (hb5.mono HBR.out.size)).mono HB.out.size)
        clear hr5 hb5
        have HQ := Lib.hid (quorum_int i w5 (by omega))
        go_wp2_with fail
        refine HQ.out.mono ?_
        rintro e w6 ⟨rfl, rfl⟩
        have hq1 := CL.quo_le i
        have hq2 : 1 ≤ CL.quo i := by unfold CL.quo; rw [if_neg (by omega)]; omega
        have HRE : Hid (CL.reached zs ids ats = HL.el (CL.srt ((CL.nrm zs).map (CL.val ids ats))) (i - CL.quo i)) := Lib.hid (by
          unfold CL.reached
          rw [HNN.out, if_neg h0])
        obtain ⟨b6, o6, hp6, _, hcs6⟩ := HR5.out.2 (by omega)
        have hcell6 := hcs6 (i - CL.quo i) (by omega)
        clear hcs6
        subst hp6
        generalize hqq : CL.quo i = qq at *
        have e1 : IntKind.i64.wrap ((i : Int) - (qq : Int)) = ((i - qq : Nat) : Int) := by rw [IntWalk.i64_in _ ⟨by omega, by omega⟩]; omega
        generalize hy : HL.el (CL.srt ((CL.nrm zs).map (CL.val ids ats))) (i - qq) = y at *
        have HY := Lib.hid hy
        clear hy hqq
        go_wp2
        go_ret
        exact ⟨by rw [HRE.out]; rfl, HB5.out⟩
end Go.Proofs.YtmfidemkmmbioaaGreat
