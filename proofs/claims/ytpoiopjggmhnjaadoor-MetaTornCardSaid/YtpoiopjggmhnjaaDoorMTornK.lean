/- MetaTorn: what is chosen behind the crash. -/
import Derived.Test.YtpoiopjggmhnjaaDoorMTorn
namespace Go.Proofs.YtpoiopjggmhnjaaDoor
open Go.RowKit Go.Conc

theorem i64_andm (n : Int) (k : Nat) (hk : k ≤ 8) : bits .and .i64 n ((2 ^ k - 1 : Nat) : Int) = n % ((2 ^ k : Nat) : Int) := by
  have h1 : (BitVec.ofInt 64 ((2 ^ k - 1 : Nat) : Int)).toNat = 2 ^ k - 1 := by
    have : 2 ^ k ≤ 2 ^ 8 := Nat.pow_le_pow_right (by omega) hk
    rw [BitVec.toNat_ofInt]
    omega
  have key : (BitVec.ofInt 64 n &&& BitVec.ofInt 64 ((2 ^ k - 1 : Nat) : Int)).toNat = (n % ((2 ^ 64 : Nat) : Int)).toNat % 2 ^ k := by
    rw [BitVec.toNat_and, BitVec.toNat_ofInt, h1, Nat.and_two_pow_sub_one_eq_mod]
  show IntKind.i64.wrap ((BitVec.ofInt 64 n &&& BitVec.ofInt 64 ((2 ^ k - 1 : Nat) : Int)).toNat : Nat) = _
  rw [key]
  have hle : (n % ((2 ^ 64 : Nat) : Int)).toNat % 2 ^ k < 2 ^ k := Nat.mod_lt _ (Nat.two_pow_pos k)
  have : 2 ^ k ≤ 2 ^ 8 := Nat.pow_le_pow_right (by omega) hk
  rw [i64_small _ (by omega), Int.natCast_emod, Int.toNat_of_nonneg (Int.emod_nonneg _ (by omega))]
  exact Int.emod_emod_of_dvd n (by
    have e : (2 ^ 64 : Nat) = 2 ^ k * 2 ^ (64 - k) := by rw [← Nat.pow_add]; congr 1; omega
    exact ⟨((2 ^ (64 - k) : Nat) : Int), by rw [e, Int.natCast_mul]⟩)
theorem and255 (n : Int) : bits .and .i64 n 255 = n % 256 := i64_andm n 8 (by omega)
theorem bitAt_test (k i : Nat) : bitAt k i = Nat.testBit k i := by
  unfold bitAt
  rw [Nat.testBit_eq_decide_div_mod_eq]
  rfl
theorem and129 (n : Int) (h : bits .and .i64 n 129 = 129) : bitAt (n % 256).toNat 0 = true ∧ bitAt (n % 256).toNat 7 = true := by
  have h1 : (BitVec.ofInt 64 129).toNat = 129 := by decide
  have e : bits .and .i64 n 129 = IntKind.i64.wrap ((BitVec.ofInt 64 n &&& BitVec.ofInt 64 129).toNat : Nat) := rfl
  rw [e, BitVec.toNat_and, BitVec.toNat_ofInt, h1] at h
  have hle : (n % ((2 ^ 64 : Nat) : Int)).toNat &&& 129 ≤ 129 := Nat.and_le_right
  rw [i64_small _ (by omega)] at h
  have h2 : (n % ((2 ^ 64 : Nat) : Int)).toNat &&& 129 = 129 := by omega
  have hm : (n % 256).toNat = (n % ((2 ^ 64 : Nat) : Int)).toNat % 2 ^ 8 := by omega
  rw [bitAt_test, bitAt_test, hm, Nat.testBit_mod_two_pow, Nat.testBit_mod_two_pow]
  have hb : ∀ i, ((n % ((2 ^ 64 : Nat) : Int)).toNat &&& 129).testBit i = Nat.testBit 129 i := fun i => by rw [h2]
  have b0 := hb 0
  have b7 := hb 7
  rw [Nat.testBit_and] at b0 b7
  generalize (n % ((2 ^ 64 : Nat) : Int)).toNat = K at *
  have t0 : Nat.testBit 129 0 = true := by decide
  have t7 : Nat.testBit 129 7 = true := by decide
  rw [t0, Bool.and_true] at b0
  rw [t7, Bool.and_true] at b7
  rw [b0, b7]
  exact ⟨rfl, rfl⟩

/-- What may be chosen behind the crash. -/
def TornX (m nx x : Mt) (keep : Int) : Prop := (x = m ∨ x = nx) ∧ (bits .and .i64 keep 129 = 129 → x = nx) ∧ (bits .and .i64 keep 255 = 0 → x = m)

theorem torn_choose {m nx : Mt} (hm : m.ok) (hn : nx.ok) (ht : nx.txn = m.txn + 1) (hp : nx.pages < 2 ^ 24) (keep : Int) {db base : Nat} {lf : Int} {F : Nat → Prop} {w : World}
    (h : Dv db base 2 true false lf (crashL (([page0, page0] : List ByteArray).set (m.txn % 2) (metaP m)) [(((nx.txn % 2 : Nat) : Int), metaP nx)] [keep] 1) (crashL (([page0, page0] : List ByteArray).set (m.txn % 2) (metaP m)) [(((nx.txn % 2 : Nat) : Int), metaP nx)] [keep] 1) [] F w) :
    ∃ x : Mt, TornX m nx x keep ∧ Calls Tryd.prog 20 #[.pointer (some ⟨db, 0, none⟩)] w fun e w' => e = .returned (.tuple #[mtv x, .int .i64 0]) ∧ Below w.heap.size w w' := by
  have hpn : nx.txn % 2 < 2 := by omega
  have hpm : m.txn % 2 < 2 := by omega
  have hne : nx.txn % 2 ≠ m.txn % 2 := by omega
  have hset : (([page0, page0] : List ByteArray).set (m.txn % 2) (metaP m)).getD (nx.txn % 2) default = page0 := by
    rw [List.getD, List.getElem?_set_ne (by omega)]
    match nx.txn % 2, hpn with
    | 0, _ => rfl
    | 1, _ => rfl
  have hL : crashL (([page0, page0] : List ByteArray).set (m.txn % 2) (metaP m)) [(((nx.txn % 2 : Nat) : Int), metaP nx)] [keep] 1 = (([page0, page0] : List ByteArray).set (m.txn % 2) (metaP m)).set (nx.txn % 2) (tornS page0 (metaP nx) (keep % 256).toNat) := by
    show (if 0 < 1 then _ else _) = _
    rw [if_pos (by omega)]
    show (([page0, page0] : List ByteArray).set (m.txn % 2) (metaP m)).set ((nx.txn % 2 : Nat) : Int).toNat (tornS ((([page0, page0] : List ByteArray).set (m.txn % 2) (metaP m)).getD ((nx.txn % 2 : Nat) : Int).toNat default) (metaP nx) (keep % 256).toNat) = _
    rw [Int.toNat_natCast, hset]
  rw [hL] at h
  obtain ⟨r', hr1, hr2, hr3, hr4⟩ := torn_is nx hn hp (keep % 256).toNat
  have hpg : ∀ j, j < 2 → PageIs j (((([page0, page0] : List ByteArray).set (m.txn % 2) (metaP m)).set (nx.txn % 2) (tornS page0 (metaP nx) (keep % 256).toNat)).getD j default) (if j = nx.txn % 2 then r' else some m) := fun j hj => by
    by_cases e : j = nx.txn % 2
    · rw [if_pos e, e, List.getD, List.getElem?_set_self (by simp; omega)]
      exact hr1
    · obtain rfl : j = m.txn % 2 := by omega
      rw [if_neg e, List.getD, List.getElem?_set_ne (by omega), List.getElem?_set_self (by simp; omega)]
      exact ⟨hm, rfl, rfl⟩
  have hch := meta_choose (fun j => if j = nx.txn % 2 then r' else some m) h (by simp) hpg
  have hb0 : bits .and .i64 keep 255 = 0 → r' = none := fun h0 => by
    rw [and255] at h0
    refine hr4 ?_
    rw [h0]
    rfl
  rcases hr2 with rfl | rfl
  · have e : chosen (fun j => if j = nx.txn % 2 then none else some m) 2 = some m := chosen_newest hpm (by rw [if_neg (fun e => hne e.symm)]) (fun j x hj hjm hx => by
      rw [if_pos (by omega)] at hx
      cases hx)
    rw [e] at hch
    refine ⟨m, ⟨.inl rfl, fun h1 => ?_, fun _ => rfl⟩, hch⟩
    have := hr3 (and129 keep h1).1 (and129 keep h1).2
    cases this
  · have e : chosen (fun j => if j = nx.txn % 2 then some nx else some m) 2 = some nx := chosen_newest hpn (by rw [if_pos rfl]) (fun j x hj hjm hx => by
      rw [if_neg hjm] at hx
      injection hx with hx
      rw [← hx]
      omega)
    rw [e] at hch
    refine ⟨nx, ⟨.inr rfl, fun _ => rfl, fun h0 => ?_⟩, hch⟩
    have := hb0 h0
    cases this
end Go.Proofs.YtpoiopjggmhnjaaDoor
