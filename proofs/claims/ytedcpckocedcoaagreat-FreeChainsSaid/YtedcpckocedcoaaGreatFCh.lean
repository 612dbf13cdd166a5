/- Bodies of numbers: what Chain writes, in plain words; arboretumref1.Chain. -/
import Derived.Test.YtedcpckocedcoaaGreatFCu
namespace Go.Proofs.YtedcpckocedcoaaGreat
open Go.RowKit

def joinF (zs : List Int) : ByteArray := zs.foldl (fun s z => s ++ f4 z) ⟨#[]⟩
theorem joinF_snoc (zs : List Int) (z : Int) : joinF (zs ++ [z]) = joinF zs ++ f4 z := by simp [joinF]
theorem joinF_size : ∀ (n : Nat) (zs : List Int), zs.length = n → (joinF zs).size = 4 * n := by
  intro n
  induction n with
  | zero => intro zs h; rw [List.length_eq_zero_iff.1 h]; rfl
  | succ n ih =>
    intro zs h
    have hne : zs ≠ [] := by intro e; rw [e] at h; simp at h
    rw [← List.dropLast_concat_getLast hne, joinF_snoc, ByteArray.size_append, f4_size, ih _ (by rw [List.length_dropLast, h]; omega)]
    omega
def partOf (zs : List Int) (k : Nat) : List Int := (zs.drop (60 * k)).take 60
def bodies (zs : List Int) (m : Nat) : List ByteArray := (List.range m).map fun k => joinF (partOf zs k)
theorem bodies_succ (zs : List Int) (m : Nat) : bodies zs (m + 1) = bodies zs m ++ [joinF (partOf zs m)] := by simp [bodies, List.range_succ]
theorem bodies_length (zs : List Int) (m : Nat) : (bodies zs m).length = m := by simp [bodies]
def chainOf (zs : List Int) : List ByteArray := bodies zs ((zs.length + 59) / 60)
theorem drop_take_succ (zs : List Int) (a r : Nat) (h : a + r < zs.length) : (zs.drop a).take (r + 1) = (zs.drop a).take r ++ [HL.el zs (a + r)] := by
  rw [List.take_add_one, List.getElem?_drop, List.getElem?_eq_getElem h]
  simp [HL.el, List.getD_eq_getElem?_getD, List.getElem?_eq_getElem h]

/-- Where the reference stands: bs is written, s is begun. -/
structure RSt (zs : List Int) (i r : Nat) (bs : List ByteArray) (s : ByteArray) : Prop where
  sz : s.size = 4 * r
  lt : r < 60
  le : bs.length ≤ i
  go : i < zs.length → bs = bodies zs (i / 60) ∧ r = i % 60 ∧ s = joinF ((zs.drop (60 * (i / 60))).take r)
  fin : i = zs.length → bs = chainOf zs
theorem RSt.zero (zs : List Int) : RSt zs 0 0 [] ⟨#[]⟩ :=
  { sz := rfl, lt := by omega, le := by simp, go := fun _ => ⟨rfl, rfl, by simp [joinF]⟩, fin := fun h => by
      unfold chainOf
      rw [← h]
      rfl }
theorem RSt.wrote {zs : List Int} {i r : Nat} {bs : List ByteArray} {s : ByteArray} (h : RSt zs i r bs s) (hi : i < zs.length) (hd : r = 59 ∨ i + 1 = zs.length) : RSt zs (i + 1) 0 (bs ++ [s ++ f4 (HL.el zs i)]) ⟨#[]⟩ := by
  obtain ⟨hb, hr, hs⟩ := h.go hi
  have hi2 : 60 * (i / 60) + r = i := by omega
  have hbody : s ++ f4 (HL.el zs i) = joinF (partOf zs (i / 60)) := by
    rw [hs, ← joinF_snoc]
    congr 1
    have e := drop_take_succ zs (60 * (i / 60)) r (by omega)
    rw [hi2] at e
    rw [← e]
    unfold partOf
    by_cases h59 : r = 59
    · rw [h59]
    · have hl : (zs.drop (60 * (i / 60))).length = r + 1 := by rw [List.length_drop]; omega
      rw [List.take_of_length_le (by omega), List.take_of_length_le (by omega)]
  have hw : bs ++ [s ++ f4 (HL.el zs i)] = bodies zs (i / 60 + 1) := by rw [hbody, hb, bodies_succ]
  refine { sz := rfl, lt := by omega, le := by rw [List.length_append]; have := h.le; simp; omega, go := fun h1 => ?_, fin := fun h1 => ?_ }
  · rw [hw]
    have : r = 59 := by omega
    have e : (i + 1) / 60 = i / 60 + 1 := by omega
    exact ⟨by rw [e], by omega, by simp [joinF]⟩
  · rw [hw]
    unfold chainOf
    congr 1
    omega
theorem RSt.went {zs : List Int} {i r : Nat} {bs : List ByteArray} {s : ByteArray} (h : RSt zs i r bs s) (hi : i + 1 < zs.length) (hd : ¬ r = 59) : RSt zs (i + 1) (r + 1) bs (s ++ f4 (HL.el zs i)) := by
  obtain ⟨hb, hr, hs⟩ := h.go (by omega)
  have hlt := h.lt
  have hi2 : 60 * (i / 60) + r = i := by omega
  have e : (i + 1) / 60 = i / 60 := by omega
  refine { sz := by rw [ByteArray.size_append, f4_size, h.sz]; omega, lt := by omega, le := by have := h.le; omega, go := fun _ => ⟨by rw [e]; exact hb, by omega, ?_⟩, fin := fun h1 => by omega }
  rw [e, drop_take_succ zs _ r (by omega), hi2, joinF_snoc, ← hs]

/-- What both answer. -/
def ChR (base : Nat) (zs : List Int) (e : Ending) (w' : World) : Prop :=
  ((∀ i, i < zs.length → ok32 (HL.el zs i)) ∧ ∃ v, e = .returned (.tuple #[v, .int .i64 0]) ∧ w'.ownsRow base 9 1 v (chainOf zs).length ((chainOf zs).map Value.string)) ∨
  ((¬ ∀ i, i < zs.length → ok32 (HL.el zs i)) ∧ e = .returned (.tuple #[.slice none 0 0, .int .i64 1]))

set_option maxHeartbeats 4000000 in
set_option maxRecDepth 100000 in
theorem ref_chain (p : Option Addr) (len cap : Nat) (zs : List Int) (w : World) (h : RdI w w.heap.size p len zs) (hn : len ≤ 400) (hs : ∀ i, i < len → HL.el zs i ≤ 9223372036854775807) :
    Calls Tryz.prog 33 #[.slice p len cap] w fun e w' => ChR w.heap.size zs e w' ∧ Below w.heap.size w w' := by
  obtain ⟨i0, hi0, hz0, hz1, hz2⟩ := info_parts info_str
  have hbl : zs.length = len := h.1
  have HR := Lib.hid h
  have HS := Lib.hid hs
  clear h hs
  go_enter Tryz.func33, Tryz.ntmps33
  go_wp2
  go_loopw [4, 5, 6] (fun ov sv iv wr => ∃ (i r : Nat) (bs : List ByteArray) (s : ByteArray), i ≤ len ∧ iv = .int .i64 i ∧ sv = .string s ∧ Hid (∀ j, j < i → ok32 (HL.el zs j)) ∧ Hid (RSt zs i r bs s) ∧ Below w.heap.size w wr ∧ wr.ownsRow w.heap.size 9 1 ov bs.length (bs.map Value.string)) (fun _ _ iv _ => len - (intOf iv).toNat)
  case atStart => exact ⟨0, 0, [], ⟨#[]⟩, by omega, rfl, rfl, Lib.hid (fun j hj => by omega), Lib.hid (RSt.zero zs), Below.refl _ _, World.ownsRow_nil _ _ _ _⟩
  case round =>
    obtain ⟨i, r, bs, s, hi, rfl, rfl, HG, HT, hb, ho⟩ := hrel
    obtain ⟨q, cp, rfl⟩ := owns_slice ho
    have HB := Lib.hid hb
    have HO := Lib.hid ho
    have hsz := hb.size
    have hble := HT.out.le
    have hssz : s.size ≤ 240 := by have := HT.out.sz; have := HT.out.lt; omega
    clear hb ho
    by_cases hlt : i < len
    · obtain ⟨b, o, hp, hpb, hc⟩ := HR.out.2 (by omega)
      subst hp
      have hcx := (HB.out.cell (p := ⟨b, o + i, none⟩) hpb).trans (hc i hlt)
      have hzm := HS.out i hlt
      have HEL : Hid (∃ z, z = HL.el zs i) := Lib.hid ⟨_, rfl⟩
      obtain ⟨z, hz⟩ := HEL.out
      rw [← hz] at hcx hzm
      have HZ := Lib.hid hz
      clear hz HEL hc
      have hltI : (i : Int) < (len : Int) := by omega
      by_cases hok : ok32 z
      · have HC := Lib.hid (ref_fix4 z wr hok)
        have HGN : Hid (∀ j, j < i + 1 → ok32 (HL.el zs j)) := Lib.hid (fun j hj => by
          rcases Nat.lt_or_ge j i with h | h
          · exact HG.out j h
          · obtain rfl : j = i := by omega
            rw [← HZ.out]
            exact hok)
        have HWR : Hid ((r = 59 ∨ i + 1 = len) → RSt zs (i + 1) 0 (bs ++ [s ++ f4 z]) ⟨#[]⟩) := Lib.hid (fun h => by rw [HZ.out]; exact HT.out.wrote (by omega) (by omega))
        have HWE : Hid (i + 1 < len → ¬ r = 59 → RSt zs (i + 1) (r + 1) bs (s ++ f4 z)) := Lib.hid (fun h1 h2 => by rw [HZ.out]; exact HT.out.went (by omega) h2)
        have hy4 := f4_size z
        have HSS := Lib.hid HT.out.sz
        have hrl := HT.out.lt
        generalize f4 z = y at *
        have hst : (s ++ y).size = s.size + 4 := by rw [ByteArray.size_append, hy4]
        have hcat : ¬ 9223372036854775807 < s.size + y.size := by omega
        have hcat4 : ¬ 9223372036854775807 < s.size + 4 := by omega
        clear hok
        go_wp2_with fail
        with_reducible refine HC.out.mono ?_
        rintro e w7 ⟨rfl, hb7⟩
        have HB7 : Hid (Below w.heap.size w w7) := Lib.hid (HB.out.trans (hb7.mono hsz))
        have HO7 := Lib.hid ((Fr.of_all (S := fun _ => False) hb7).owns HO.out (fun _ _ h => h))
        have hsz7 : w.heap.size ≤ w7.heap.size := HB7.out.size
        clear hb7 HC HB HO hcx
        by_cases hd : r = 59 ∨ i + 1 = len
        · have HN := Lib.hid (HWR.out hd)
          by_cases h240 : s.size + 4 = 240
          · have hdd : ((s.size : Int) + 4 == 240) = true := by rw [beq_iff_eq]; omega
            have h240I : (s.size : Int) + 4 = 240 := by omega
            clear hd
            go_wp2_with (at_builtin; refine wpList_append_own _ rfl _ _ 68 rfl w.heap.size 9 i0 _ 1 16 Tryz.underlying68 hi0 hz0 hz1 hz2 rfl (by omega) (.slice q bs.length cp) bs.length (bs.map Value.string) rfl ?own ⟨w7.heap.size, 0, none⟩ 1 1 [.string (s ++ y)] rfl rfl ?cells ?one ?len ?bytes ?base ?_; (case own => exact HO7.out.alloc _); (case cells => exact new_cells w7 _ _); (case one => simp [Value.oneCell']); (case len => unfold maxLen; omega); (case bytes => omega); (case base => simp; omega); intro v8 w8 hown hgr _; have HOW := Lib.hid hown; have HGR := Lib.hid hgr; clear hown hgr)
            have HBE : Hid (Below w.heap.size w w8) := Lib.hid ((HB7.out.alloc hsz7 _).grown HGR.out (by simp; omega) (fun g hg => (HO7.out.lt g hg).1))
            have HOE : Hid (w8.ownsRow w.heap.size 9 1 v8 (bs ++ [s ++ y]).length ((bs ++ [s ++ y]).map Value.string)) := Lib.hid (by rw [List.length_append, List.map_append]; exact HOW.out)
            clear HOW HGR HO7 HB7
            go_wp2
            go_roundw
            case rel => exact ⟨i + 1, 0, bs ++ [s ++ y], ⟨#[]⟩, by omega, by go_num, rfl, HGN, HN, HBE.out, HOE.out⟩
            case measure => simp [intOf]; omega
          · have hdd : ((s.size : Int) + 4 == 240) = false := by rw [beq_eq_false_iff_ne]; omega
            have h240I : ¬ (s.size : Int) + 4 = 240 := by omega
            have hll : ((i : Int) == (len : Int) - 1) = true := by
              rw [beq_iff_eq]
              have := HSS.out
              omega
            clear hd
            go_wp2_with (at_builtin; refine wpList_append_own _ rfl _ _ 68 rfl w.heap.size 9 i0 _ 1 16 Tryz.underlying68 hi0 hz0 hz1 hz2 rfl (by omega) (.slice q bs.length cp) bs.length (bs.map Value.string) rfl ?own ⟨w7.heap.size, 0, none⟩ 1 1 [.string (s ++ y)] rfl rfl ?cells ?one ?len ?bytes ?base ?_; (case own => exact HO7.out.alloc _); (case cells => exact new_cells w7 _ _); (case one => simp [Value.oneCell']); (case len => unfold maxLen; omega); (case bytes => omega); (case base => simp; omega); intro v8 w8 hown hgr _; have HOW := Lib.hid hown; have HGR := Lib.hid hgr; clear hown hgr)
            have HBE : Hid (Below w.heap.size w w8) := Lib.hid ((HB7.out.alloc hsz7 _).grown HGR.out (by simp; omega) (fun g hg => (HO7.out.lt g hg).1))
            have HOE : Hid (w8.ownsRow w.heap.size 9 1 v8 (bs ++ [s ++ y]).length ((bs ++ [s ++ y]).map Value.string)) := Lib.hid (by rw [List.length_append, List.map_append]; exact HOW.out)
            clear HOW HGR HO7 HB7
            go_wp2
            go_roundw
            case rel => exact ⟨i + 1, 0, bs ++ [s ++ y], ⟨#[]⟩, by omega, by go_num, rfl, HGN, HN, HBE.out, HOE.out⟩
            case measure => simp [intOf]; omega
        · have HSO := Lib.hid HSS.out
          have hdd : ((s.size : Int) + 4 == 240) = false := by rw [beq_eq_false_iff_ne]; have := HSO.out; omega
          have h240I : ¬ (s.size : Int) + 4 = 240 := by have := HSO.out; omega
          have hll : ((i : Int) == (len : Int) - 1) = false := by rw [beq_eq_false_iff_ne]; omega
          have hlI : ¬ (i : Int) = (len : Int) - 1 := by omega
          have HN := Lib.hid (HWE.out (by omega) (by omega))
          clear hd
          go_wp2
          go_roundw
          case rel => exact ⟨i + 1, r + 1, bs, s ++ y, by omega, by go_num, rfl, HGN, HN, HB7.out, HO7.out⟩
          case measure => simp [intOf]; omega
      · have HNE : Hid (¬ ∀ i, i < zs.length → ok32 (HL.el zs i)) := Lib.hid (fun h => hok (by rw [HZ.out]; exact h i (by omega)))
        have HC := Lib.hid (ref_fix4_bad z wr hok hzm)
        clear hok
        go_wp2_with fail
        with_reducible refine HC.out.mono ?_
        rintro e w7 ⟨rfl, hb7⟩
        have HB7 : Hid (Below w.heap.size w w7) := Lib.hid (HB.out.trans (hb7.mono hsz))
        clear hb7 HC
        go_wp2
        go_ret2
        exact ⟨.inr ⟨HNE.out, rfl⟩, HB7.out⟩
    · obtain rfl : i = len := by omega
      have HA : Hid (ChR w.heap.size zs (.returned (.tuple #[.slice q bs.length cp, .int .i64 0])) wr) := Lib.hid (.inl ⟨fun j hj => HG.out j (by omega), _, rfl, by
        rw [← HT.out.fin hbl.symm]
        exact HO.out⟩)
      go_wp2
      go_ret2
      exact ⟨HA.out, HB.out⟩
end Go.Proofs.YtedcpckocedcoaaGreat
