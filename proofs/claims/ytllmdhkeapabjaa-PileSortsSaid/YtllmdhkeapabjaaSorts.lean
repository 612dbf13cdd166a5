/- slices.Index at numbers, Pile.Drop; arboretumlaw3.PileSorts returns true, whatever its arguments. -/
import Derived.Test.YtllmdhkeapabjaaAlive
namespace Go.Proofs.Ytllmdhkeapabjaa
open Go.RowKit

set_option maxHeartbeats 400000 in
set_option maxRecDepth 100000 in
theorem index_nums (pb ao base : Nat) (v : Value) (l : List Int) (x : Int) (w : World) (h : NumsI pb ao base v l w) :
    Calls Try.prog 27 #[v, .int .i64 x] w fun e w' => w = w' ∧ ((∃ k : Nat, e = .returned (.int .i64 k) ∧ k < l.length ∧ HL.el l k = x) ∨ (e = .returned (.int .i64 (-1)) ∧ x ∉ l)) := by
  obtain ⟨p, c, hv⟩ := owns_slice h.2.2.1
  have hcells : ∀ k, k < l.length → ∃ g, p = some ⟨g, 0, none⟩ ∧ w.cell? ⟨g, k, none⟩ = some (.int .i64 (HL.el l k)) := by
    intro k hk
    obtain ⟨g, cap, hv', _, _, _⟩ := owns_len h.2.2.1 (by omega)
    rw [hv] at hv'
    injection hv' with e1 _ e3
    subst e1 e3
    exact ⟨g, rfl, (hv ▸ h).cells rfl k hk⟩
  have hm := h.2.2.2.2.1
  have HC := Lib.hid hcells
  subst hv
  clear h hcells
  go_enter Try.func27, Try.ntmps27
  go_wp2
  go_loop [4, 5, 8] (fun _ _ iv => ∃ k : Nat, k ≤ l.length ∧ iv = .int .i64 k ∧ ∀ j, j < k → HL.el l j ≠ x) (fun _ _ iv => l.length - (intOf iv).toNat)
  case atStart => exact ⟨0, Nat.zero_le _, rfl, fun j hj => by omega⟩
  case round =>
    obtain ⟨k, hk, rfl, hno⟩ := hrel
    have HN := Lib.hid hno; clear hno
    by_cases hlt : k < l.length
    · obtain ⟨g, hp, hcell⟩ := HC.out k hlt
      subst hp
      by_cases hx : x = HL.el l k
      · have hb : (x == HL.el l k) = true := by rw [beq_iff_eq]; exact hx
        have HX := Lib.hid hx
        clear hx
        generalize hy : HL.el l k = y at *
        have HY := Lib.hid hy; clear hy
        go_wp2
        go_ret
        exact ⟨rfl, .inl ⟨k, rfl, hlt, by rw [HY.out, HX.out]⟩⟩
      · have hb : (x == HL.el l k) = false := by rw [beq_eq_false_iff_ne]; exact hx
        have HX := Lib.hid hx
        clear hx
        generalize hy : HL.el l k = y at *
        have HY := Lib.hid hy; clear hy
        go_wp2
        go_round
        case rel => exact ⟨k + 1, by omega, by go_num, fun j hj => by
          by_cases e : j = k
          · subst e; rw [HY.out]; exact fun h => HX.out h.symm
          · exact HN.out j (by omega)⟩
        case measure => simp [intOf]; omega
    · go_wp2
      go_ret
      refine ⟨rfl, .inr ⟨rfl, fun hm => ?_⟩⟩
      obtain ⟨j, hj, e⟩ := List.getElem_of_mem hm
      refine HN.out j (by omega) ?_
      have := HL.el_eq l j hj
      rw [List.getElem?_eq_getElem hj] at this
      injection this with this
      rw [← this, e]

/-- What Drop leaves. -/
def DropPost (pb base : Nat) (v : Value) (l : List Int) (x : Int) (w : World) (e : Ending) (w' : World) : Prop :=
  ∃ b v' l', e = .returned (.bool b) ∧ PileI pb base v' l' w' ∧ Fr (pileF pb v) w w' ∧ v'.ownBlock = v.ownBlock ∧ ((b = true ∧ (x :: l').Perm l) ∨ (b = false ∧ l' = l ∧ x ∉ l))

set_option maxHeartbeats 400000 in
set_option maxRecDepth 100000 in
theorem pile_drop (pb base : Nat) (v : Value) (l : List Int) (x : Int) (w : World) (h : PileI pb base v l w) :
    Calls Try.prog 18 #[.pointer (some ⟨pb, 0, none⟩), .int .i64 x] w (DropPost pb base v l x w) := by
  obtain ⟨p, c, hv⟩ := owns_slice h.1.2.2.1
  have hc := h.1.1
  have HI := Lib.hid (index_nums pb 0 base v l x w h.1)
  have HH := Lib.hid h
  have hm := h.1.2.2.2.2.1
  clear h
  rw [hv] at hc HI
  go_enter Try.func18, Try.ntmps18
  go_wp2_with fail
  have HV := Lib.hid hv
  clear hv
  refine HI.out.mono ?_
  rintro e w1 ⟨rfl, ⟨k, rfl, hk, hx⟩ | ⟨rfl, hx⟩⟩
  · have HR := Lib.hid (heap_remove_nums pb 0 base v l k w HH.out.1 HH.out.2 (by omega) (by omega))
    rw [Int.toNat_natCast, hx] at HR
    have HX := Lib.hid hx
    clear hx
    go_wp2_with fail
    refine HR.out.mono ?_
    rintro e w2 ⟨u, rfl, v', l', rfl, hI, hh, hp, hF, hv', _⟩
    have HF : Hid (DropPost pb base v l x w (.returned (.bool true)) w2) := ⟨true, v', l', rfl, ⟨hI, hh⟩, hF, hv', .inl ⟨rfl, hp⟩⟩
    clear hI hh hp hF hv'
    go_wp2
    go_ret
    exact HF.out
  · have HX := Lib.hid hx
    clear hx
    go_wp2
    go_ret
    exact ⟨false, v, l, rfl, HH.out, Fr.refl _ _, rfl, .inr ⟨rfl, rfl, HX.out⟩⟩

def SortRel (w : World) (pb : Nat) (m : Int) (wr : World) : Prop :=
  ∃ v l, PileI pb w.heap.size v l wr ∧ (l.length : Int) = m ∧ Below w.heap.size w wr ∧ w.heap.size ≤ pb

def SortRel3 (w : World) (pb : Nat) (m : Int) (first : Bool) (last : Int) (wr : World) : Prop :=
  ∃ v l, PileI pb w.heap.size v l wr ∧ (l.length : Int) = m ∧ Below w.heap.size w wr ∧ w.heap.size ≤ pb ∧ (first = false → ∀ y ∈ l, last ≤ y)

theorem PileI.ge {pb base : Nat} {v : Value} {l : List Int} {w : World} (h : PileI pb base v l w) (hb : base ≤ pb) : ∀ k, pileF pb v k → base ≤ k := by
  rintro k (rfl | hk)
  · exact hb
  · exact (h.1.2.2.1.lt k hk).1

set_option maxHeartbeats 2000000 in
set_option maxRecDepth 100000 in
theorem pileSorts_walk (p q : Option Addr) (n c m d : Nat) (zs ds : List Int) (w : World) (h : RdI w w.heap.size p n zs) (hd : RdI w w.heap.size q m ds) :
    Calls Try.prog 5 #[.slice p n c, .slice q m d] w fun e w' => e = .returned (.bool true) ∧ Below w.heap.size w w' := by
  by_cases hn : 200 < n ∨ 60 < m
  · clear h hd
    rcases Nat.lt_or_ge 200 n with h1 | h1
    · go_enter Try.func5, Try.ntmps5
      go_wp2_with (go_at_call 8; refine (alive_true _).mono ?_; rintro e w' ⟨rfl, hb⟩)
      go_ret
      exact ⟨rfl, hb⟩
    · have h2 : 60 < m := by omega
      clear hn
      go_enter Try.func5, Try.ntmps5
      go_wp2_with (go_at_call 8; refine (alive_true _).mono ?_; rintro e w' ⟨rfl, hb⟩)
      go_ret
      exact ⟨rfl, hb⟩
  · have hn' : n ≤ 200 := by omega
    have hm' : m ≤ 60 := by omega
    clear hn
    have HZ := Lib.hid h
    have HD := Lib.hid hd
    clear h hd
    go_enter Try.func5, Try.ntmps5
    go_wp2_with fail
    refine (pile_new none 0 0 [] w ⟨rfl, fun h => by omega⟩ (by omega)).mono ?_
    rintro e w1 ⟨pb, v, l, rfl, hpb, hP, hp, hb⟩
    have HST : Hid (SortRel w pb 0 w1) := ⟨v, l, hP, by rw [hp.length_eq]; rfl, hb, hpb⟩
    clear hP hp hb
    go_wp2
    go_loopw [6] (fun iv wr => ∃ i : Nat, i ≤ n ∧ iv = .int .i64 i ∧ SortRel w pb i wr) (fun iv _ => n - (intOf iv).toNat)
    case atStart => exact ⟨0, Nat.zero_le _, rfl, HST.out⟩
    case round =>
      clear HST
      obtain ⟨i, hi, rfl, v, l, hP, hl, hb, hpb⟩ := hrel
      by_cases hlt : i < n
      · obtain ⟨b, o, e, hbl, hc⟩ := (HZ.out.below hb).2 (by omega)
        have hcell := hc i hlt
        clear hc
        subst e
        have hbs := hb.size
        generalize hx : HL.el zs i = x at *
        clear hx
        have HPU : Hid (Calls Try.prog 17 #[.pointer (some ⟨pb, 0, none⟩), .slice (some ⟨wr.heap.size, 0, none⟩) 1 1] (wr.alloc (.cells #[.int .i64 x] 3)) fun e w' => e = .returned (.tuple #[]) ∧ SortRel w pb (i + 1) w') := by
          have hP1 := hP.keep ((Fr.refl (fun _ => False) wr).alloc (.cells #[.int .i64 x] 3)) (fun _ _ h => h)
          have hr : RdI (wr.alloc (.cells #[.int .i64 x] 3)) (wr.alloc (.cells #[.int .i64 x] 3)).heap.size (some ⟨wr.heap.size, 0, none⟩) 1 [x] := rd_new wr [x] 3
          have hlt2 := hP.lt
          refine (pile_put pb w.heap.size v l [x] _ 1 1 _ hP1 hr (fun b' o' e' _ hs => ?_) (by omega)).mono ?_
          · injection e' with e'
            injection e' with e' _
            have := hlt2 _ hs
            omega
          · rintro e w2 ⟨he, v2, l2, hP2, hp2, hF2, _⟩
            refine ⟨he, v2, l2, hP2, by rw [hp2.length_eq, List.length_append]; simp; omega, (hb.alloc hb.size _).trans (hF2.below (by simp; omega) (hP.ge hpb)), hpb⟩
        clear hP hl hb
        go_wp2_with fail
        refine HPU.out.mono ?_
        rintro e w2 ⟨rfl, hR⟩
        have HR := Lib.hid hR
        clear hR
        go_wp2
        go_roundw
        case rel => exact ⟨i + 1, by omega, by go_num, by simpa using HR.out⟩
        case measure => simp [intOf]; omega
      · have : i = n := by omega
        subst this
        have HST : Hid (SortRel w pb i wr) := ⟨v, l, hP, hl, hb, hpb⟩
        clear hP hl hb
        go_wp2
        obtain ⟨wo, hwo⟩ : ∃ wo : World, wo = wr := ⟨_, rfl⟩
        rw [← hwo]
        rw [← hwo] at HST
        clear hwo
        go_loopw [7, 8] (fun nv iv wr => ∃ (j : Nat) (t : Nat), j ≤ m ∧ t ≤ i ∧ nv = .int .i64 t ∧ iv = .int .i64 j ∧ SortRel w pb t wr) (fun _ iv _ => m - (intOf iv).toNat)
        case atStart => exact ⟨0, i, Nat.zero_le _, Nat.le_refl _, rfl, rfl, HST.out⟩
        case round =>
          clear HST
          obtain ⟨j, t, hj, ht, rfl, rfl, v, l, hP, hl, hb, hpb⟩ := hrel
          by_cases hlt2 : j < m
          · obtain ⟨b, o, e, hbl, hc⟩ := (HD.out.below hb).2 (by omega)
            have hcell := hc j hlt2
            clear hc
            subst e
            generalize hx : HL.el ds j = x at *
            clear hx
            have HDR := Lib.hid (pile_drop pb _ v l x wr hP)
            have HGE := Lib.hid (hP.ge hpb)
            have HB := Lib.hid hb
            have HLL := Lib.hid hl
            clear hP hb hl
            go_wp2_with fail
            refine HDR.out.mono ?_
            rintro e w2 ⟨bb, v2, l2, rfl, hP2, hF2, hv2, ⟨rfl, hp2⟩ | ⟨rfl, rfl, hno⟩⟩
            · have hlen : l2.length + 1 = l.length := by rw [← hp2.length_eq]; rfl
              have htt : (t : Int) = l2.length + 1 := by have := HLL.out; omega
              have HR : Hid (SortRel w pb (t - 1) w2) := ⟨v2, l2, hP2, by omega, HB.out.trans (hF2.below HB.out.size HGE.out), hpb⟩
              have ht1 : 1 ≤ t := by omega
              clear hP2 hF2 hv2 hp2 hlen htt
              go_wp2
              go_roundw
              case rel => exact ⟨j + 1, t - 1, by omega, by omega, by rw [show (t : Int) - 1 = ((t - 1 : Nat) : Int) by omega], by go_num, by rw [show (((t - 1 : Nat) : Int)) = (t : Int) - 1 by omega]; exact HR.out⟩
              case measure => simp [intOf]; omega
            · have HR : Hid (SortRel w pb t w2) := ⟨v2, l2, hP2, HLL.out, HB.out.trans (hF2.below HB.out.size HGE.out), hpb⟩
              clear hP2 hF2 hv2 hno
              go_wp2
              go_roundw
              case rel => exact ⟨j + 1, t, by omega, by omega, rfl, by go_num, HR.out⟩
              case measure => simp [intOf]; omega
          · have : j = m := by omega
            subst this
            have HST : Hid (SortRel3 w pb t true 0 wr) := ⟨v, l, hP, hl, hb, hpb, fun h => by cases h⟩
            clear hP hl hb
            go_wp2
            obtain ⟨wo, hwo⟩ : ∃ wo : World, wo = wr := ⟨_, rfl⟩
            rw [← hwo]
            rw [← hwo] at HST
            clear hwo
            go_loopw [9, 10, 11, 12, 13, 4] (fun lv fv kv _ _ _ wr => ∃ (k : Nat) (f : Bool) (la : Int), k ≤ t ∧ lv = .int .i64 la ∧ fv = .bool f ∧ kv = .int .i64 k ∧ SortRel3 w pb (t - k) f la wr) (fun _ _ kv _ _ _ _ => t - (intOf kv).toNat)
            case atStart => exact ⟨0, true, 0, Nat.zero_le _, rfl, rfl, rfl, by simpa using HST.out⟩
            case round =>
              clear HST
              obtain ⟨k, f, la, hk, rfl, rfl, rfl, v, l, hP, hl, hb, hpb, hla⟩ := hrel
              have HLA := Lib.hid hla; clear hla
              by_cases hkt : k < t
              · have hpos : 0 < l.length := by omega
                have HT := Lib.hid (pile_take_some pb _ v l wr hP hpos)
                have hle : f = false → la ≤ HL.el l 0 := fun hf => HLA.out hf _ (HL.el_mem l 0 hpos)
                have HMIN := Lib.hid (fun y hy => hP.2.least_mem nlt_ord y hy)
                have HGE := Lib.hid (hP.ge hpb)
                have HB := Lib.hid hb
                have HLL := Lib.hid hl
                clear hP hb hl
                generalize HL.el l 0 = x at *
                go_wp2_with fail
                refine HT.out.mono ?_
                rintro e w2 ⟨rfl, v2, l2, hP2, hp2, hF2, hv2⟩
                have HR : Hid (SortRel3 w pb (t - (k + 1 : Nat)) false x w2) := by
                  have hlen : l2.length + 1 = l.length := by rw [← hp2.length_eq]; rfl
                  refine ⟨v2, l2, hP2, by have := HLL.out; omega, HB.out.trans (hF2.below HB.out.size HGE.out), hpb, fun _ y hy => ?_⟩
                  have := HMIN.out y (hp2.subset (List.mem_cons_of_mem _ hy))
                  unfold nlt at this
                  simp only [decide_eq_false_iff_not] at this
                  omega
                clear hP2 hF2 hv2 hp2
                cases f with
                | true =>
                  clear hle
                  go_wp2
                  go_roundw
                  case rel => exact ⟨k + 1, false, x, by omega, rfl, rfl, by go_num, HR.out⟩
                  case measure => simp [intOf]; omega
                | false =>
                  have hle' : ¬ x < la := by have := hle rfl; omega
                  clear hle
                  go_wp2
                  go_roundw
                  case rel => exact ⟨k + 1, false, x, by omega, rfl, rfl, by go_num, HR.out⟩
                  case measure => simp [intOf]; omega
              · obtain rfl : l = [] := List.eq_nil_of_length_eq_zero (by omega)
                have HP := Lib.hid hP
                have HB := Lib.hid hb
                clear hP hb hl HLA
                go_wp2_with fail
                refine (pile_take_none pb _ v wr HP.out).mono ?_
                rintro e w2 ⟨rfl, rfl⟩
                go_wp2_with fail
                refine (alive_true _).mono ?_
                rintro e w3 ⟨rfl, hb3⟩
                have HP3 := Lib.hid (HP.out.keep (Fr.of_all (S := fun _ => False) hb3) (fun _ _ h => h))
                have HB3 := Lib.hid (HB.out.trans (hb3.mono HB.out.size))
                clear hb3
                go_wp2_with fail
                refine (pile_len pb _ v [] _ HP3.out).mono ?_
                rintro e w4 ⟨rfl, rfl⟩
                go_wp2
                go_ret
                exact ⟨rfl, HB3.out⟩
end Go.Proofs.Ytllmdhkeapabjaa
