/- free.Unchain and arboretumref1.Unchain: numbers out of bodies. (Printed by gen-unchain.py.) -/
import Derived.Test.YtedcpckocedcoaaGreatQFix
import Derived.Test.YtedcpckocedcoaaGreatQtI
namespace Go.Proofs.YtedcpckocedcoaaGreat
open Go.RowKit

/-- The k-th number in a body; the first k; all. -/
def unAt (b : ByteArray) (k : Nat) : Int := (unfixN b (4 * k) 4 : Nat)
def upL (b : ByteArray) (k : Nat) : List Int := (List.range k).map (unAt b)
theorem upL_succ (b : ByteArray) (k : Nat) : upL b (k + 1) = upL b k ++ [unAt b k] := by simp [upL, List.range_succ]
theorem upL_length (b : ByteArray) (k : Nat) : (upL b k).length = k := by simp [upL]
def unL (b : ByteArray) : List Int := upL b (b.size / 4)
def unAll (bs : List ByteArray) : List Int := bs.flatMap unL
theorem unAll_take {bs : List ByteArray} {i : Nat} (h : i < bs.length) : unAll (bs.take (i + 1)) = unAll (bs.take i) ++ unL (HL.el bs i) := by
  have e : bs.take (i + 1) = bs.take i ++ [HL.el bs i] := by
    rw [List.take_add_one, List.getElem?_eq_getElem h]
    simp [HL.el, List.getD_eq_getElem?_getD, List.getElem?_eq_getElem h]
  rw [e]
  simp [unAll]
theorem unAll_le {bs : List ByteArray} (hs : ∀ i, i < bs.length → (HL.el bs i).size ≤ 6000) : ∀ i, i ≤ bs.length → (unAll (bs.take i)).length ≤ 1500 * i
  | 0, _ => by simp [unAll]
  | i + 1, h => by
    have := unAll_le hs i (by omega)
    have := hs i (by omega)
    rw [unAll_take (by omega), List.length_append]
    unfold unL
    rw [upL_length]
    omega
/-- What both answer. -/
def UnR (base : Nat) (bs : List ByteArray) (e : Ending) (w' : World) : Prop :=
  ((∀ i, i < bs.length → (HL.el bs i).size % 4 = 0) ∧ ∃ v, e = .returned (.tuple #[v, .int .i64 0]) ∧ w'.ownsRow base 3 1 v (unAll bs).length ((unAll bs).map (Value.int .i64))) ∨
  ((¬ ∀ i, i < bs.length → (HL.el bs i).size % 4 = 0) ∧ e = .returned (.tuple #[.slice none 0 0, .int .i64 4]))
theorem tmod4 (n : Nat) : ((n : Int)).tmod 4 = ((n % 4 : Nat) : Int) := by
  rw [Int.tmod_eq_emod_of_nonneg (by omega)]
  omega
theorem ref_unfix4 (b : ByteArray) (at' : Nat) (w : World) (h : at' + 4 ≤ b.size) (hb : b.size ≤ 1000000) :
    Calls Tryz.prog 101 #[.string b, .int .i64 at', .int .i64 4] w fun e w' => e = .returned (.tuple #[.int .i64 (unfixN b at' 4 : Nat), .int .i64 0]) ∧ w' = w := ref_unfix b at' 4 w h (by omega) (by omega) hb
theorem num_unfix4 (b : ByteArray) (at' : Nat) (w : World) (h : at' + 4 ≤ b.size) (hb : b.size ≤ 1000000) :
    Calls Tryz.prog 100 #[.string b, .int .i64 at', .int .i64 4] w fun e w' => e = .returned (.tuple #[.int .i64 (unfixN b at' 4 : Nat), .int .i64 0]) ∧ w' = w := num_unfix b at' 4 w h (by omega) (by omega) hb

set_option maxHeartbeats 4000000 in
set_option maxRecDepth 100000 in
theorem ref_unchain (p : Option Addr) (len cap : Nat) (bs : List ByteArray) (w : World) (h : RdT w w.heap.size p len bs) (hn : len ≤ 60) (hs : ∀ i, i < len → (HL.el bs i).size ≤ 6000) :
    Calls Tryz.prog 35 #[.slice p len cap] w fun e w' => UnR w.heap.size bs e w' ∧ Below w.heap.size w w' := by
  obtain ⟨i0, hi0, hz0, hz1, hz2⟩ := info_parts info_int
  have hbl : bs.length = len := h.1
  have HR := Lib.hid h
  have HS := Lib.hid hs
  clear h hs
  go_enter Tryz.func35, Tryz.ntmps35
  go_wp2
  go_loopw [4, 5] (fun ov iv wr => ∃ (i : Nat) (us : List Int), i ≤ len ∧ iv = .int .i64 i ∧ Hid (us = unAll (bs.take i)) ∧ Hid (∀ j, j < i → (HL.el bs j).size % 4 = 0) ∧ Below w.heap.size w wr ∧ wr.ownsRow w.heap.size 3 1 ov us.length (us.map (Value.int .i64))) (fun _ iv _ => len - (intOf iv).toNat)
  case atStart => exact ⟨0, [], by omega, rfl, Lib.hid (by simp [unAll]), Lib.hid (fun j hj => by omega), Below.refl _ _, World.ownsRow_nil _ _ _ _⟩
  case round =>
    obtain ⟨i, us, hi, rfl, HU, HG, hb, ho⟩ := hrel
    obtain ⟨q, cp, rfl⟩ := owns_slice ho
    have HB := Lib.hid hb
    have HO := Lib.hid ho
    have hsz := hb.size
    clear hb ho
    by_cases hlt : i < len
    · obtain ⟨b, o, hp, hpb, hc⟩ := HR.out.2 (by omega)
      subst hp
      have hci := hc i hlt
      have hbs := HS.out i hlt
      have HTK : Hid (unAll (bs.take (i + 1)) = us ++ unL (HL.el bs i)) := Lib.hid (by rw [HU.out]; exact unAll_take (by omega))
      have hln : us.length ≤ 1500 * i := by rw [HU.out]; exact unAll_le (fun j hj => HS.out j (by omega)) i (by omega)
      have HEL : Hid (∃ y, y = HL.el bs i) := Lib.hid ⟨_, rfl⟩
      obtain ⟨y, hy⟩ := HEL.out
      rw [← hy] at hci hbs HTK
      have HY := Lib.hid hy
      have HCX : Hid (∀ V, Below w.heap.size w V → V.cell? ⟨b, o + i, none⟩ = some (.string y)) := Lib.hid (fun V hV => (hV.cell (p := ⟨b, o + i, none⟩) hpb).trans hci)
      have hcx := HCX.out wr HB.out
      clear hy HEL hc hci
      have htm := tmod4 y.size
      have hltI : (i : Int) < (len : Int) := by omega
      by_cases hm : y.size % 4 = 0
      · have HM := Lib.hid hm
        rw [hm] at htm
        clear hm
        go_wp2
        go_loopw [4, 6] (fun ov kv wr => ∃ (j k : Nat) (xs : List Int), j ≤ y.size ∧ kv = .int .i64 (j : Int) ∧ Hid (j = 4 * k) ∧ Hid (xs = us ++ upL y k) ∧ Below w.heap.size w wr ∧ wr.ownsRow w.heap.size 3 1 ov xs.length (xs.map (Value.int .i64))) (fun _ kv _ => y.size - (intOf kv).toNat)
        case atStart => exact ⟨0, 0, us, by omega, rfl, Lib.hid rfl, Lib.hid (by simp [upL]), HB.out, HO.out⟩
        case round =>
          clear HO hcx
          obtain ⟨j, k, xs, hk, rfl, HJ, HXS, hb, ho⟩ := hrel
          obtain ⟨q, cp, rfl⟩ := owns_slice ho
          have HB := Lib.hid hb
          have HO := Lib.hid ho
          have hsz := hb.size
          have hl2 : xs.length ≤ us.length + k := by rw [HXS.out, List.length_append, upL_length]; exact Nat.le_refl _
          clear hb ho
          have hcx := HCX.out wr HB.out
          by_cases hk2 : j < y.size
          · have hk4 : j + 4 ≤ y.size := by have := HM.out; have := HJ.out; omega
            have hk5 : k ≤ 1500 := by have := HJ.out; omega
            have HJ2 : Hid (j + 4 = 4 * (k + 1)) := Lib.hid (by have := HJ.out; omega)
            have HUX : Hid (unAt y k = (unfixN y j 4 : Nat)) := Lib.hid (by rw [HJ.out]; rfl)
            have HC := Lib.hid (ref_unfix4 y j wr hk4 (by omega))
            have HUS : Hid (us ++ upL y (k + 1) = xs ++ [unAt y k]) := Lib.hid (by rw [HXS.out, upL_succ, List.append_assoc])
            have hkI : (j : Int) < (y.size : Int) := by omega
            go_wp2_with fail
            with_reducible refine HC.out.mono ?_
            rintro e w7 ⟨rfl, hw7⟩
            rw [hw7]
            clear hw7 w7
            go_wp2_with (at_builtin; refine wpList_append_own _ rfl _ _ 22 rfl w.heap.size 3 i0 _ 1 8 Tryz.underlying22 hi0 hz0 hz1 hz2 rfl (by omega) (.slice q xs.length cp) xs.length (xs.map (Value.int .i64)) rfl ?own ⟨wr.heap.size, 0, none⟩ 1 1 [.int .i64 (unfixN y j 4 : Nat)] rfl rfl ?cells ?one ?len ?bytes ?base ?_; (case own => exact HO.out.alloc _); (case cells => exact new_cells wr _ _); (case one => simp [Value.oneCell']); (case len => unfold maxLen; omega); (case bytes => omega); (case base => simp; omega); intro v8 w8 hown hgr _; have HOW := Lib.hid hown; have HGR := Lib.hid hgr; clear hown hgr)
            have HBE : Hid (Below w.heap.size w w8) := Lib.hid ((HB.out.alloc hsz _).grown HGR.out (by simp; omega) (fun g hg => (HO.out.lt g hg).1))
            have HOE : Hid (w8.ownsRow w.heap.size 3 1 v8 (xs ++ [unAt y k]).length ((xs ++ [unAt y k]).map (Value.int .i64))) := Lib.hid (by rw [HUX.out, List.length_append, List.map_append]; exact HOW.out)
            clear HOW HGR HO HB HC hcx
            go_wp2
            go_roundw
            case rel => exact ⟨j + 4, k + 1, xs ++ [unAt y k], by omega, by go_num, HJ2, Lib.hid HUS.out.symm, HBE.out, HOE.out⟩
            case measure => simp [intOf]; omega
          · have hk3 : k = y.size / 4 := by have := HJ.out; have := HM.out; omega
            have HXE : Hid (xs = unAll (bs.take (i + 1))) := Lib.hid (by rw [HTK.out, HXS.out, hk3]; rfl)
            have hkI : ¬ (j : Int) < (y.size : Int) := by omega
            have HGN : Hid (∀ j, j < i + 1 → (HL.el bs j).size % 4 = 0) := Lib.hid (fun j hj => by
              rcases Nat.lt_or_ge j i with h | h
              · exact HG.out j h
              · obtain rfl : j = i := by omega
                rw [← HY.out]
                exact HM.out)
            clear hk3
            go_wp2
            go_roundw
            case rel => exact ⟨i + 1, xs, by omega, by go_num, HXE, HGN, HB.out, HO.out⟩
            case measure => simp [intOf]; omega
      · have HNE : Hid (¬ ∀ i, i < bs.length → (HL.el bs i).size % 4 = 0) := Lib.hid (fun h => hm (by rw [HY.out]; exact h i (by omega)))
        have hx : (((y.size % 4 : Nat) : Int) == 0) = false := by rw [beq_eq_false_iff_ne]; omega
        have hx2 : ¬ ((y.size % 4 : Nat) : Int) = 0 := by omega
        clear hm
        generalize y.size % 4 = r at *
        go_wp2
        go_ret2
        exact ⟨.inr ⟨HNE.out, rfl⟩, HB.out⟩
    · obtain rfl : i = len := by omega
      have HA : Hid (UnR w.heap.size bs (.returned (.tuple #[.slice q us.length cp, .int .i64 0])) wr) := Lib.hid (.inl ⟨fun j hj => HG.out j (by omega), _, rfl, by
        have e : bs.take i = bs := List.take_of_length_le (by omega)
        have h1 := HU.out
        rw [e] at h1
        rw [← h1]
        exact HO.out⟩)
      go_wp2
      go_ret2
      exact ⟨HA.out, HB.out⟩

set_option maxHeartbeats 4000000 in
set_option maxRecDepth 100000 in
theorem free_unchain (p : Option Addr) (len cap : Nat) (bs : List ByteArray) (w : World) (h : RdT w w.heap.size p len bs) (hn : len ≤ 60) (hs : ∀ i, i < len → (HL.el bs i).size ≤ 6000) :
    Calls Tryz.prog 34 #[.slice p len cap] w fun e w' => UnR w.heap.size bs e w' ∧ Below w.heap.size w w' := by
  obtain ⟨i0, hi0, hz0, hz1, hz2⟩ := info_parts info_int
  have hbl : bs.length = len := h.1
  have HR := Lib.hid h
  have HS := Lib.hid hs
  clear h hs
  go_enter Tryz.func34, Tryz.ntmps34
  go_wp2
  go_loopw [4, 12] (fun ov iv wr => ∃ (i : Nat) (us : List Int), i ≤ len ∧ iv = .int .i64 i ∧ Hid (us = unAll (bs.take i)) ∧ Hid (∀ j, j < i → (HL.el bs j).size % 4 = 0) ∧ Below w.heap.size w wr ∧ wr.ownsRow w.heap.size 3 1 ov us.length (us.map (Value.int .i64))) (fun _ iv _ => len - (intOf iv).toNat)
  case atStart => exact ⟨0, [], by omega, rfl, Lib.hid (by simp [unAll]), Lib.hid (fun j hj => by omega), Below.refl _ _, World.ownsRow_nil _ _ _ _⟩
  case round =>
    obtain ⟨i, us, hi, rfl, HU, HG, hb, ho⟩ := hrel
    obtain ⟨q, cp, rfl⟩ := owns_slice ho
    have HB := Lib.hid hb
    have HO := Lib.hid ho
    have hsz := hb.size
    clear hb ho
    by_cases hlt : i < len
    · obtain ⟨b, o, hp, hpb, hc⟩ := HR.out.2 (by omega)
      subst hp
      have hci := hc i hlt
      have hbs := HS.out i hlt
      have HTK : Hid (unAll (bs.take (i + 1)) = us ++ unL (HL.el bs i)) := Lib.hid (by rw [HU.out]; exact unAll_take (by omega))
      have hln : us.length ≤ 1500 * i := by rw [HU.out]; exact unAll_le (fun j hj => HS.out j (by omega)) i (by omega)
      have HEL : Hid (∃ y, y = HL.el bs i) := Lib.hid ⟨_, rfl⟩
      obtain ⟨y, hy⟩ := HEL.out
      rw [← hy] at hci hbs HTK
      have HY := Lib.hid hy
      have HCX : Hid (∀ V, Below w.heap.size w V → V.cell? ⟨b, o + i, none⟩ = some (.string y)) := Lib.hid (fun V hV => (hV.cell (p := ⟨b, o + i, none⟩) hpb).trans hci)
      have hcx := HCX.out wr HB.out
      clear hy HEL hc hci
      have htm := tmod4 y.size
      have hltI : (i : Int) < (len : Int) := by omega
      by_cases hm : y.size % 4 = 0
      · have HM := Lib.hid hm
        rw [hm] at htm
        clear hm
        go_wp2
        go_loopw [4, 7] (fun ov kv wr => ∃ (j k : Nat) (xs : List Int), j ≤ y.size ∧ kv = .int .i64 (j : Int) ∧ Hid (j = 4 * k) ∧ Hid (xs = us ++ upL y k) ∧ Below w.heap.size w wr ∧ wr.ownsRow w.heap.size 3 1 ov xs.length (xs.map (Value.int .i64))) (fun _ kv _ => y.size - (intOf kv).toNat)
        case atStart => exact ⟨0, 0, us, by omega, rfl, Lib.hid rfl, Lib.hid (by simp [upL]), HB.out, HO.out⟩
        case round =>
          clear HO hcx
          obtain ⟨j, k, xs, hk, rfl, HJ, HXS, hb, ho⟩ := hrel
          obtain ⟨q, cp, rfl⟩ := owns_slice ho
          have HB := Lib.hid hb
          have HO := Lib.hid ho
          have hsz := hb.size
          have hl2 : xs.length ≤ us.length + k := by rw [HXS.out, List.length_append, upL_length]; exact Nat.le_refl _
          clear hb ho
          have hcx := HCX.out wr HB.out
          by_cases hk2 : j < y.size
          · have hk4 : j + 4 ≤ y.size := by have := HM.out; have := HJ.out; omega
            have hk5 : k ≤ 1500 := by have := HJ.out; omega
            have HJ2 : Hid (j + 4 = 4 * (k + 1)) := Lib.hid (by have := HJ.out; omega)
            have HUX : Hid (unAt y k = (unfixN y j 4 : Nat)) := Lib.hid (by rw [HJ.out]; rfl)
            have HC := Lib.hid (num_unfix4 y j wr hk4 (by omega))
            have HUS : Hid (us ++ upL y (k + 1) = xs ++ [unAt y k]) := Lib.hid (by rw [HXS.out, upL_succ, List.append_assoc])
            have hkI : (j : Int) < (y.size : Int) := by omega
            go_wp2_with fail
            with_reducible refine HC.out.mono ?_
            rintro e w7 ⟨rfl, hw7⟩
            rw [hw7]
            clear hw7 w7
            go_wp2_with (at_builtin; refine wpList_append_own _ rfl _ _ 22 rfl w.heap.size 3 i0 _ 1 8 Tryz.underlying22 hi0 hz0 hz1 hz2 rfl (by omega) (.slice q xs.length cp) xs.length (xs.map (Value.int .i64)) rfl ?own ⟨wr.heap.size, 0, none⟩ 1 1 [.int .i64 (unfixN y j 4 : Nat)] rfl rfl ?cells ?one ?len ?bytes ?base ?_; (case own => exact HO.out.alloc _); (case cells => exact new_cells wr _ _); (case one => simp [Value.oneCell']); (case len => unfold maxLen; omega); (case bytes => omega); (case base => simp; omega); intro v8 w8 hown hgr _; have HOW := Lib.hid hown; have HGR := Lib.hid hgr; clear hown hgr)
            have HBE : Hid (Below w.heap.size w w8) := Lib.hid ((HB.out.alloc hsz _).grown HGR.out (by simp; omega) (fun g hg => (HO.out.lt g hg).1))
            have HOE : Hid (w8.ownsRow w.heap.size 3 1 v8 (xs ++ [unAt y k]).length ((xs ++ [unAt y k]).map (Value.int .i64))) := Lib.hid (by rw [HUX.out, List.length_append, List.map_append]; exact HOW.out)
            clear HOW HGR HO HB HC hcx
            go_wp2
            go_roundw
            case rel => exact ⟨j + 4, k + 1, xs ++ [unAt y k], by omega, by go_num, HJ2, Lib.hid HUS.out.symm, HBE.out, HOE.out⟩
            case measure => simp [intOf]; omega
          · have hk3 : k = y.size / 4 := by have := HJ.out; have := HM.out; omega
            have HXE : Hid (xs = unAll (bs.take (i + 1))) := Lib.hid (by rw [HTK.out, HXS.out, hk3]; rfl)
            have hkI : ¬ (j : Int) < (y.size : Int) := by omega
            have HGN : Hid (∀ j, j < i + 1 → (HL.el bs j).size % 4 = 0) := Lib.hid (fun j hj => by
              rcases Nat.lt_or_ge j i with h | h
              · exact HG.out j h
              · obtain rfl : j = i := by omega
                rw [← HY.out]
                exact HM.out)
            clear hk3
            go_wp2
            go_roundw
            case rel => exact ⟨i + 1, xs, by omega, by go_num, HXE, HGN, HB.out, HO.out⟩
            case measure => simp [intOf]; omega
      · have HNE : Hid (¬ ∀ i, i < bs.length → (HL.el bs i).size % 4 = 0) := Lib.hid (fun h => hm (by rw [HY.out]; exact h i (by omega)))
        have hx : (((y.size % 4 : Nat) : Int) == 0) = false := by rw [beq_eq_false_iff_ne]; omega
        have hx2 : ¬ ((y.size % 4 : Nat) : Int) = 0 := by omega
        clear hm
        generalize y.size % 4 = r at *
        go_wp2
        go_ret2
        exact ⟨.inr ⟨HNE.out, rfl⟩, HB.out⟩
    · obtain rfl : i = len := by omega
      have HA : Hid (UnR w.heap.size bs (.returned (.tuple #[.slice q us.length cp, .int .i64 0])) wr) := Lib.hid (.inl ⟨fun j hj => HG.out j (by omega), _, rfl, by
        have e : bs.take i = bs := List.take_of_length_le (by omega)
        have h1 := HU.out
        rw [e] at h1
        rw [← h1]
        exact HO.out⟩)
      go_wp2
      go_ret2
      exact ⟨HA.out, HB.out⟩
end Go.Proofs.YtedcpckocedcoaaGreat
