/- What is chained is unchained. No program in sight. -/
import Derived.Test.YtedcpckocedcoaaGreatFCs
namespace Go.Proofs.YtedcpckocedcoaaGreat
open Go.RowKit

theorem byteAt_app_l (a b : ByteArray) (i : Nat) (h : i < a.size) : byteAt (a ++ b) i = byteAt a i := by
  unfold byteAt
  rw [Array.getD_eq_getD_getElem?, Array.getD_eq_getD_getElem?, ByteArray.data_append, Array.getElem?_append_left h]
theorem byteAt_app_r (a b : ByteArray) (i : Nat) : byteAt (a ++ b) (a.size + i) = byteAt b i := by
  unfold byteAt
  rw [Array.getD_eq_getD_getElem?, Array.getD_eq_getD_getElem?, ByteArray.data_append, Array.getElem?_append_right (by show a.size ≤ _; omega)]
  show (b.data[a.size + i - a.size]?.getD 0).toNat = _
  rw [Nat.add_sub_cancel_left]
theorem unfix_app_l (a b : ByteArray) (k : Nat) : ∀ n, k + n ≤ a.size → unfixN (a ++ b) k n = unfixN a k n
  | 0, _ => rfl
  | n + 1, h => by
    show unfixN (a ++ b) k n + byteAt (a ++ b) (k + n) * 2 ^ (8 * n) = unfixN a k n + byteAt a (k + n) * 2 ^ (8 * n)
    rw [unfix_app_l a b k n (by omega), byteAt_app_l a b (k + n) (by omega)]
theorem unfix_app_r (a b : ByteArray) : ∀ n, unfixN (a ++ b) a.size n = unfixN b 0 n
  | 0 => rfl
  | n + 1 => by
    show unfixN (a ++ b) a.size n + byteAt (a ++ b) (a.size + n) * 2 ^ (8 * n) = unfixN b 0 n + byteAt b (0 + n) * 2 ^ (8 * n)
    rw [unfix_app_r a b n, byteAt_app_r, Nat.zero_add]
theorem byteAt_fix (v i : Nat) (h : i < 4) : byteAt (fixS v 4) i = v / 2 ^ (8 * i) % 256 := by
  unfold byteAt
  have hl : i < (fixL v 4).length := by rw [fixL_length]; exact h
  have e := fixL_at v 4 i hl
  rw [Array.getD_eq_getD_getElem?]
  show ((fixL v 4).toArray[i]?.getD 0).toNat = _
  rw [List.getElem?_toArray, List.getElem?_eq_getElem hl, Option.getD_some]
  have e2 : ((v / 2 ^ (8 * i) % 256 : Nat) : Int) = (v : Int) / 2 ^ (8 * i) % 256 := by simp
  exact Int.ofNat_inj.1 (e.trans e2.symm)
theorem unfix_fix4 (v : Nat) (h : v < 4294967296) : unfixN (fixS v 4) 0 4 = v := by
  have h0 := byteAt_fix v 0 (by omega)
  have h1 := byteAt_fix v 1 (by omega)
  have h2 := byteAt_fix v 2 (by omega)
  have h3 := byteAt_fix v 3 (by omega)
  simp only [unfixN, Nat.zero_add] at *
  simp only [Nat.mul_zero, Nat.mul_one, Nat.reduceMul, Nat.reducePow, Nat.pow_zero] at *
  omega
theorem unL_snoc (s : ByteArray) (z : Int) (r : Nat) (hs : s.size = 4 * r) (hz : ok32 z) : unL (s ++ f4 z) = unL s ++ [z] := by
  have e1 : (s ++ f4 z).size / 4 = r + 1 := by rw [ByteArray.size_append, f4_size]; omega
  have e2 : s.size / 4 = r := by omega
  unfold unL
  rw [e1, e2, upL_succ]
  congr 1
  · unfold upL
    apply List.map_congr_left
    intro k hk
    have hk := List.mem_range.1 hk
    unfold unAt
    rw [unfix_app_l s (f4 z) (4 * k) 4 (by omega)]
  · unfold unAt
    rw [← hs, unfix_app_r]
    unfold f4
    rw [unfix_fix4 _ (by have := hz.2; have := hz.1; omega)]
    have := hz.1
    congr 1
    omega
theorem unL_join : ∀ (n : Nat) (l : List Int), l.length = n → (∀ z ∈ l, ok32 z) → unL (joinF l) = l := by
  intro n
  induction n with
  | zero => intro l h _; rw [List.length_eq_zero_iff.1 h]; rfl
  | succ n ih =>
    intro l h hz
    have hne : l ≠ [] := by intro e; rw [e] at h; simp at h
    have hl := List.dropLast_concat_getLast hne
    have hd : l.dropLast.length = n := by rw [List.length_dropLast, h]; omega
    have h1 := ih l.dropLast hd (fun z hz2 => hz z (List.dropLast_subset _ hz2))
    rw [← hl, joinF_snoc, unL_snoc _ _ n (joinF_size n _ hd) (hz _ (List.getLast_mem hne)), h1]
theorem el_mem {zs : List Int} {z : Int} (h : z ∈ zs) : ∃ i, i < zs.length ∧ HL.el zs i = z := by
  obtain ⟨i, hi, e⟩ := List.mem_iff_getElem.1 h
  exact ⟨i, hi, by simp [HL.el, List.getD_eq_getElem?_getD, List.getElem?_eq_getElem hi, e]⟩
theorem unAll_bodies (zs : List Int) (hz : ∀ i, i < zs.length → ok32 (HL.el zs i)) : ∀ m, unAll (bodies zs m) = zs.take (60 * m)
  | 0 => by simp [unAll, bodies]
  | m + 1 => by
    have ha : ∀ z ∈ zs, ok32 z := fun z h => by obtain ⟨i, hi, e⟩ := el_mem h; rw [← e]; exact hz i hi
    rw [bodies_succ]
    have e : unAll (bodies zs m ++ [joinF (partOf zs m)]) = unAll (bodies zs m) ++ unL (joinF (partOf zs m)) := by simp [unAll]
    rw [e, unAll_bodies zs hz m, unL_join _ (partOf zs m) rfl (fun z h => ha z (by unfold partOf at h; exact List.mem_of_mem_drop (List.mem_of_mem_take h)))]
    unfold partOf
    rw [show 60 * (m + 1) = 60 * m + 60 by omega, List.take_add]
theorem unAll_chain (zs : List Int) (hz : ∀ i, i < zs.length → ok32 (HL.el zs i)) : unAll (chainOf zs) = zs := by
  unfold chainOf
  rw [unAll_bodies zs hz, List.take_of_length_le (by omega)]
theorem chain_size (zs : List Int) (i : Nat) (h : i < (chainOf zs).length) : (HL.el (chainOf zs) i).size % 4 = 0 ∧ (HL.el (chainOf zs) i).size ≤ 240 := by
  have e : HL.el (chainOf zs) i = joinF (partOf zs i) := by
    have h2 : i < (zs.length + 59) / 60 := by unfold chainOf at h; rw [bodies_length] at h; exact h
    simp [HL.el, chainOf, bodies, List.getD_eq_getElem?_getD, h2]
  rw [e, joinF_size _ _ rfl]
  have : (partOf zs i).length ≤ 60 := by unfold partOf; rw [List.length_take]; omega
  omega
theorem chain_length (zs : List Int) : (chainOf zs).length = (zs.length + 59) / 60 := by unfold chainOf; exact bodies_length _ _
end Go.Proofs.YtedcpckocedcoaaGreat
