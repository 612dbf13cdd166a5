/- over.Cut: a value in pieces. -/
import Derived.Test.YtlocadmiomglaaaGreatDoorB4
import Derived.Test.YtlocadmiomglaaaGreatDoorB1
import Derived.Test.YtlocadmiomglaaaGreatDoorB6
namespace Go.Proofs.YtlocadmiomglaaaGreatDoor
open Go.RowKit

def cutN (v : ByteArray) : Nat := (v.size + 239) / 240
def pieceAt (v : ByteArray) (i : Nat) : ByteArray := v.extract (240 * i) (240 * i + 240)
def cutU (v : ByteArray) (k : Nat) : List ByteArray := (List.range k).map (pieceAt v)
def cutL (v : ByteArray) : List ByteArray := cutU v (cutN v)
theorem cutU_succ (v : ByteArray) (k : Nat) : cutU v (k + 1) = cutU v k ++ [pieceAt v k] := by simp [cutU, List.range_succ]
theorem cutU_length (v : ByteArray) (k : Nat) : (cutU v k).length = k := by simp [cutU]

theorem ext2 (v : ByteArray) (a b c d : Nat) (h : a + d ≤ b) : (v.extract a b).extract c d = v.extract (a + c) (a + d) := by
  apply ByteArray.ext
  simp only [ByteArray.data_extract, Array.extract_extract]
  congr 1
  omega
theorem ext_all (v : ByteArray) (a b : Nat) (h : v.size ≤ b) : v.extract a b = v.extract a v.size := by
  apply ByteArray.ext
  simp only [ByteArray.data_extract]
  have h2 : v.data.size = v.size := rfl
  apply Array.ext
  · rw [Array.size_extract, Array.size_extract]
    omega
  · intro i h1 h2
    simp
theorem rest_zero (v : ByteArray) : v.extract (240 * 0) v.size = v := by
  rw [Nat.mul_zero]
  exact ByteArray.extract_zero_size
theorem rest_size (v : ByteArray) (k : Nat) : (v.extract (240 * k) v.size).size = v.size - 240 * k := by
  rw [ByteArray.size_extract, Nat.min_self]
theorem rest_next (v : ByteArray) (k : Nat) (h : 240 * (k + 1) ≤ v.size) : (v.extract (240 * k) v.size).extract 240 (v.size - 240 * k) = v.extract (240 * (k + 1)) v.size := by
  rw [ext2 _ _ _ _ _ (by omega)]
  congr 1
  omega
theorem rest_piece (v : ByteArray) (k : Nat) (h : 240 * (k + 1) ≤ v.size) : (v.extract (240 * k) v.size).extract 0 240 = pieceAt v k := by
  rw [ext2 _ _ _ _ _ (by omega)]
  rfl
theorem rest_last (v : ByteArray) (k : Nat) (h : v.size ≤ 240 * k + 240) : v.extract (240 * k) v.size = pieceAt v k := (ext_all v _ _ h).symm

theorem str_empty (t : ByteArray) : t.toList.isEmpty = decide (t.size = 0) := by
  rw [ByteArray.toList_eq]
  obtain ⟨⟨l⟩⟩ := t
  cases l <;> simp [ByteArray.size]

set_option maxHeartbeats 2000000 in
set_option maxRecDepth 100000 in
theorem over_cut (v : ByteArray) (w : World) (hv : v.size ≤ 100000) : Calls Tryz.prog 16 #[.string v] w fun e w' => ∃ u, e = .returned u ∧ w'.ownsRow w.heap.size 9 1 u (cutN v) (rowOf scells (cutL v)) ∧ Below w.heap.size w w' := by
  obtain ⟨i0, hi0, hz0, hz1, hz2⟩ := info_parts info_string
  have HV := Lib.hid hv
  clear hv
  go_enter Tryz.func16, Tryz.ntmps16
  go_wp2
  go_loopw [0, 3] (fun sv tv wr => ∃ k : Nat, 240 * k ≤ v.size ∧ Hid (k = 0 ∨ 240 * k < v.size) ∧ sv = .string (v.extract (240 * k) v.size) ∧ Hid (wr.ownsRow w.heap.size 9 1 tv k (rowOf scells (cutU v k))) ∧ Hid (Below w.heap.size w wr)) (fun sv _ _ => match sv with | .string s => s.size | _ => 0)
  case atStart => exact ⟨0, by omega, Lib.hid (.inl rfl), by rw [rest_zero], Lib.hid (World.ownsRow_nil _ _ _ _), Lib.hid (Below.refl _ _)⟩
  case round =>
    obtain ⟨k, hk, hk0, rfl, ho, hb⟩ := hrel
    obtain ⟨fp, fc, rfl⟩ := owns_slice ho.out
    have hbs := hb.out.size
    have hsz := rest_size v k
    have hsi : ((v.extract (240 * k) v.size).size : Int) = ((v.size - 240 * k : Nat) : Int) := by rw [hsz]
    by_cases hlt : 240 * (k + 1) < v.size
    · have hp := rest_piece v k (by omega)
      have hn := rest_next v k (by omega)
      have hg : (240 : Int) < ((v.extract (240 * k) v.size).size : Int) := by omega
      have hk9 : k ≤ 1000 := by have := HV.out; omega
      go_wp2_with (at_builtin; refine wpList_append_lies _ rfl _ _ 45 rfl w.heap.size 9 i0 _ 1 16 Tryz.underlying45 hi0 hz0 hz1 hz2 rfl (by omega) _ k (rowOf scells (cutU v k)) rfl ?own ⟨wr.heap.size, 0, none⟩ 1 1 [.string (pieceAt v k)] rfl rfl ?cells ?one (by omega) ?len ?bytes ?base (wr.heap.size + 1) (by simp) ?_; (case own => exact ho.out.alloc _); (case cells => exact new_cells wr _ _); (case one => simp [Value.oneCell']); (case len => unfold maxLen; omega); (case bytes => omega); (case base => simp; omega); intro g cap w3 hown hgr hat hg; (have HO3 : Hid (w3.ownsRow w.heap.size 9 1 (.slice (some ⟨g, 0, none⟩) (k + 1) cap) (k + 1) (rowOf scells (cutU v (k + 1)))) := Lib.hid (by rw [cutU_succ, rowOf_append, rowOf_one]; exact hown)); (have HB3 : Hid (Below w.heap.size w w3) := Lib.hid ((hb.out.alloc hb.out.size _).grown hgr (by simp; omega) (fun k hk => (ho.out.lt k hk).1))); clear hown hgr hat hg)
      go_roundw
      case rel => exact ⟨k + 1, by omega, Lib.hid (.inr (by omega)), rfl, HO3, HB3⟩
      case measure => simp; omega
    · have hg : ¬ (240 : Int) < ((v.size - 240 * k : Nat) : Int) := by omega
      have hk9 : k ≤ 1000 := by have := HV.out; omega
      have hse := str_empty (v.extract (240 * k) v.size)
      rw [hsz] at hse
      by_cases h0 : v.size - 240 * k = 0
      · have hkk : k = 0 := by have := hk0.out; omega
        have hN : cutN v = 0 := by unfold cutN; omega
        have HN := Lib.hid hN
        have HE : Hid (wr.ownsRow w.heap.size 9 1 (.slice fp k fc) (cutN v) (rowOf scells (cutL v))) := Lib.hid (by unfold cutL; rw [hN, ← hkk]; exact ho.out)
        rw [decide_eq_true h0] at hse
        clear hkk hN h0
        go_wp2
        go_ret
        exact ⟨_, rfl, HE.out, hb.out⟩
      · have hN : cutN v = k + 1 := by unfold cutN; omega
        have HE : Hid (∀ (W : World) (u : Value), W.ownsRow w.heap.size 9 1 u (k + 1) (rowOf scells (cutU v (k + 1))) → W.ownsRow w.heap.size 9 1 u (cutN v) (rowOf scells (cutL v))) := Lib.hid (fun W u h => by unfold cutL; rw [hN]; exact h)
        rw [decide_eq_false h0] at hse
        have hlast := rest_last v k (by omega)
        rw [hlast] at hse hsz hsi ⊢
        clear hN
        go_wp2_with (at_builtin; refine wpList_append_lies _ rfl _ _ 45 rfl w.heap.size 9 i0 _ 1 16 Tryz.underlying45 hi0 hz0 hz1 hz2 rfl (by omega) _ k (rowOf scells (cutU v k)) rfl ?own ⟨wr.heap.size, 0, none⟩ 1 1 [.string (pieceAt v k)] rfl rfl ?cells ?one (by omega) ?len ?bytes ?base (wr.heap.size + 1) (by simp) ?_; (case own => exact ho.out.alloc _); (case cells => exact new_cells wr _ _); (case one => simp [Value.oneCell']); (case len => unfold maxLen; omega); (case bytes => omega); (case base => simp; omega); intro g cap w3 hown hgr hat hg; (have HO3 : Hid (w3.ownsRow w.heap.size 9 1 (.slice (some ⟨g, 0, none⟩) (k + 1) cap) (k + 1) (rowOf scells (cutU v (k + 1)))) := Lib.hid (by rw [cutU_succ, rowOf_append, rowOf_one]; exact hown)); (have HB3 : Hid (Below w.heap.size w w3) := Lib.hid ((hb.out.alloc hb.out.size _).grown hgr (by simp; omega) (fun k hk => (ho.out.lt k hk).1))); clear hown hgr hat hg)
        go_wp2
        go_ret
        exact ⟨_, rfl, HE.out _ _ HO3.out, HB3.out⟩
end Go.Proofs.YtlocadmiomglaaaGreatDoor
