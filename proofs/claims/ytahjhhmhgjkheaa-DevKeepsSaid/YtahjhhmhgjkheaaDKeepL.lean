/- The plain law of DevKeeps: each sector is one that was synced, or one that was written since. -/
import Derived.Test.YtahjhhmhgjkheaaDLastL
import Derived.Test.YtahjhhmhgjkheaaTwin
namespace Go.Proofs.Ytahjhhmhgjkheaa
open Go.RowKit Go.Conc

/-- The slice p of n elements reads as the bytes zs; its memory lies below block B. -/
def RdU (w : World) (B : Nat) (p : Option Addr) (n : Nat) (zs : List Nat) : Prop :=
  zs.length = n ∧ (∀ k, zs.getD k 0 < 256) ∧ (0 < n → ∃ b o, p = some ⟨b, o, none⟩ ∧ b < B ∧ ∀ k, k < n → w.cell? ⟨b, o + k, none⟩ = some (.int .u8 (zs.getD k 0 : Nat)))

theorem rdu_of_row {w : World} {a : Option Addr} {len cap : Nat} {zs : List Int}
    (h : (a = none ∧ len = 0 ∧ cap = 0 ∧ zs = []) ∨ ∃ x, a = some x ∧ len ≤ cap ∧ cap ≤ maxLen ∧ zs.length = cap ∧ (∀ i, i < zs.length → w.cell? (x.add i) = some (.int .u8 (zs.getD i 0))) ∧ ∀ n ∈ zs, (Lit.int .u8 n).wf = true) : RdU w w.heap.size a len ((zs.take len).map Int.toNat) := by
  rcases h with ⟨rfl, rfl, rfl, rfl⟩ | ⟨⟨b, o, sp⟩, rfl, hl, hm, hz, hc, hwf⟩
  · exact ⟨rfl, fun k => by simp, fun h => by omega⟩
  · have hr : ∀ k, k < len → 0 ≤ zs.getD k 0 ∧ zs.getD k 0 < 256 := fun k hk => by
      have hlt : k < zs.length := by omega
      have h := hwf _ (by rw [List.getD_eq_getElem?_getD, List.getElem?_eq_getElem hlt]; exact List.getElem_mem hlt : zs.getD k 0 ∈ zs)
      have e1 : IntKind.u8.min = 0 := rfl
      have e2 : IntKind.u8.max = 255 := rfl
      simp only [Lit.wf, Bool.and_eq_true, decide_eq_true_eq] at h
      omega
    have hg : ∀ k, k < len → ((zs.take len).map Int.toNat).getD k 0 = (zs.getD k 0).toNat := fun k hk => by
      have hlt : k < zs.length := by omega
      simp [List.getD_eq_getElem?_getD, hk, hlt]
    refine ⟨by rw [List.length_map, List.length_take]; omega, fun k => ?_, fun hn => ?_⟩
    · by_cases hk : k < len
      · rw [hg k hk]; have := hr k hk; omega
      · have : ((zs.take len).map Int.toNat).getD k 0 = 0 := by
          rw [List.getD_eq_getElem?_getD, List.getElem?_eq_none (by rw [List.length_map, List.length_take]; omega)]
          rfl
        omega
    have h0 := hc 0 (by omega)
    have hsp : sp = none := by simpa [Addr.add] using World.cell?_spot h0
    subst hsp
    refine ⟨b, o, rfl, by simpa [Addr.add] using cell_lt h0, fun k hk => ?_⟩
    have h1 := hc k (by omega)
    have e : ((⟨b, o, none⟩ : Addr).add k) = ⟨b, o + k, none⟩ := by
      unfold Addr.add
      split
      · rename_i h; rw [h, Nat.add_zero]
      · rfl
    rw [e] at h1
    rw [h1, hg k hk]
    have := hr k hk
    congr 2
    omega

theorem sect_tornL (o d : List UInt8) (k n i : Nat) (ho : o.length = 256) (hd : d.length = 256) (hn : n ≤ 8) (hi : i < n) : sect (tornL o d k n) i = sect (if bitAt k i then d else o) i := by
  apply List.ext_getElem?
  intro j
  by_cases hj : j < 32
  · rw [sect_at _ _ _ hj, sect_at _ _ _ hj, tornL_at o d k n i j ho hd hn hi hj]
  · have h1 : (sect (tornL o d k n) i).length ≤ 32 := by unfold sect; rw [List.length_take]; omega
    have h2 : (sect (if bitAt k i then d else o) i).length ≤ 32 := by unfold sect; rw [List.length_take]; omega
    rw [List.getElem?_eq_none (by omega), List.getElem?_eq_none (by omega)]

/-- A sector of a page. -/
def sectS (s : ByteArray) (k : Nat) : ByteArray := s.extract (32 * k) (32 * k + 32)
theorem sectS_eq {s t : ByteArray} {k : Nat} (h : sect s.data.toList k = sect t.data.toList k) : sectS s k = sectS t k := by
  have key : ∀ x : ByteArray, (sectS x k).data.toList = sect x.data.toList k := fun x => by
    unfold sectS sect
    rw [ByteArray.data_extract, Array.toList_extract, List.extract_eq_take_drop]
    rw [show 32 * k + 32 - 32 * k = 32 by omega]
  have h2 := (key s).trans (h.trans (key t).symm)
  have h3 : (sectS s k).data = (sectS t k).data := by
    apply Array.ext'
    exact h2
  exact ByteArray.ext h3

def keepWs (m : Nat) (mo : Nat → Nat) (n : Nat) : List Wr := (List.range n).map fun i => (((i % m : Nat) : Int), fill (mo i) 0)
theorem keepWs_succ (m : Nat) (mo : Nat → Nat) (n : Nat) : keepWs m mo (n + 1) = keepWs m mo n ++ [(((n % m : Nat) : Int), fill (mo n) 0)] := by
  unfold keepWs
  rw [List.range_succ, List.map_append]
  rfl
theorem keepWs_length (m : Nat) (mo : Nat → Nat) (n : Nat) : (keepWs m mo n).length = n := by simp [keepWs]
theorem keepWs_at (m : Nat) (mo : Nat → Nat) (n i : Nat) (h : i < n) : (keepWs m mo n).getD i default = (((i % m : Nat) : Int), fill (mo i) 0) := by
  rw [List.getD_eq_getElem?_getD, keepWs, List.getElem?_map, List.getElem?_range h]
  rfl

/-- Each sector of each page is one that was synced, or one that was written to that page since. -/
theorem crash_keeps (m : Nat) (mo : Nat → Nat) (P : List ByteArray) (ks : List Int) (L n p k : Nat) (hm : 0 < m) (hP : P.length = m) (hS : ∀ x ∈ P, x.size = 256) (hn : n ≤ L) (hp : p < m) (hk : k < 8) :
    (crashL P (keepWs m mo L) ks n).length = m ∧ (∀ x ∈ crashL P (keepWs m mo L) ks n, x.size = 256) ∧
    (sect ((crashL P (keepWs m mo L) ks n).getD p default).data.toList k = sect (P.getD p default).data.toList k ∨ ∃ i, i < n ∧ i % m = p ∧ sect ((crashL P (keepWs m mo L) ks n).getD p default).data.toList k = sect (fill (mo i) 0).data.toList k) := by
  induction n with
  | zero => exact ⟨hP, hS, .inl rfl⟩
  | succ n ih =>
    obtain ⟨h1, h2, h3⟩ := ih (by omega)
    rw [crashL_succ, keepWs_at m mo L n (by omega)]
    by_cases hk2 : n < ks.length
    · rw [if_pos hk2]
      generalize crashL P (keepWs m mo L) ks n = C at *
      simp only [Int.toNat_natCast]
      have hlt : n % m < C.length := by rw [h1]; exact Nat.mod_lt _ hm
      have hsz : (C.getD (n % m) default).size = 256 := h2 _ (getD_mem hlt)
      refine ⟨by rw [List.length_set, h1], fun x hx => ?_, ?_⟩
      · rcases List.mem_or_eq_of_mem_set hx with hx | rfl
        · exact h2 x hx
        · exact tornS_size _ _ _ hsz (fill_size _ _)
      · by_cases he : n % m = p
        · subst he
          have hg : (C.set (n % m) (tornS (C.getD (n % m) default) (fill (mo n) 0) (HL.el ks n % 256).toNat)).getD (n % m) default = tornS (C.getD (n % m) default) (fill (mo n) 0) (HL.el ks n % 256).toNat := by
            rw [List.getD_eq_getElem?_getD, List.getElem?_set_self hlt]
            rfl
          rw [hg]
          have ht : sect (tornS (C.getD (n % m) default) (fill (mo n) 0) (HL.el ks n % 256).toNat).data.toList k = sect (if bitAt (HL.el ks n % 256).toNat k then (fill (mo n) 0).data.toList else (C.getD (n % m) default).data.toList) k := sect_tornL _ _ _ 8 k (by simpa using hsz) (by simpa using fill_size _ _) (by omega) hk
          rw [ht]
          by_cases hb : bitAt (HL.el ks n % 256).toNat k = true
          · rw [if_pos hb]
            exact .inr ⟨n, by omega, rfl, rfl⟩
          · rw [if_neg hb]
            rcases h3 with h3 | ⟨i, hi, hi2, h3⟩
            · exact .inl h3
            · exact .inr ⟨i, by omega, hi2, h3⟩
        · have hg : (C.set (n % m) (tornS (C.getD (n % m) default) (fill (mo n) 0) (HL.el ks n % 256).toNat)).getD p default = C.getD p default := by
            rw [List.getD_eq_getElem?_getD, List.getElem?_set_ne he, ← List.getD_eq_getElem?_getD]
          rw [hg]
          rcases h3 with h3 | ⟨i, hi, hi2, h3⟩
          · exact .inl h3
          · exact .inr ⟨i, by omega, hi2, h3⟩
    · rw [if_neg hk2]
      refine ⟨h1, h2, ?_⟩
      rcases h3 with h3 | ⟨i, hi, hi2, h3⟩
      · exact .inl h3
      · exact .inr ⟨i, by omega, hi2, h3⟩

theorem crash_none (P : List ByteArray) (ks : List Int) : crashL P [] ks ([] : List Wr).length = P := rfl
end Go.Proofs.Ytahjhhmhgjkheaa
