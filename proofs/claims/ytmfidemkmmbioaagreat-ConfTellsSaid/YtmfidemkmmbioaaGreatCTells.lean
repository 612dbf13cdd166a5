/- arboretumlaw17.ConfTells returns true, whatever its arguments. -/
import Derived.Test.YtmfidemkmmbioaaGreatBkN
import Derived.Test.YtmfidemkmmbioaaGreatConfD
import Derived.Test.YtmfidemkmmbioaaGreatCAlive
namespace Go.Proofs.YtmfidemkmmbioaaGreat
open Go.RowKit

theorem KeepInt.of_below {bb B : Nat} {w w' : World} (h : Below w.heap.size w w') (hB : B ≤ w.heap.size) : KeepInt bb B w w' :=
  ⟨fun _ _ _ _ ho _ => (Fr.of_all (S := fun _ => False) h).owns ho (fun _ _ h => h), h.mono hB⟩

theorem Lent.some_at {w : World} {base n c : Nat} {p : Option Addr} {zs : List Int} (h : Lent w base (.slice p n c) zs) : p = none → c = 0 := fun e => by
  obtain ⟨g, cap, e1, _⟩ := h
  injection e1 with e1 _ _
  rw [e1] at e
  cases e

/-- What stands as the law goes: the Book, four lists that were handed in. -/
structure TellS (w W : World) (N : Nat) (F : Nat → Prop) (A B C D : Value) (zs us is ts : List Int) : Prop where
  hb : Below w.heap.size w W
  bk : BookN W w.heap.size w.heap.size N F
  a : Lent W (w.heap.size + 1) A zs
  b : Lent W (w.heap.size + 1) B us
  c : Lent W (w.heap.size + 1) C is
  d : Lent W (w.heap.size + 1) D ts

section
variable {w W W' : World} {N N' : Nat} {F F' : Nat → Prop} {A B C D : Value} {zs us is ts : List Int}

theorem TellS.below (h : TellS w W N F A B C D zs us is ts) (hb : Below W.heap.size W W') : TellS w W' N F A B C D zs us is ts :=
  ⟨h.hb.trans (hb.mono h.hb.size), h.bk.below hb, h.a.below hb, h.b.below hb, h.c.below hb, h.d.below hb⟩
theorem TellS.next (h : TellS w W N F A B C D zs us is ts) (hk : KeepInt w.heap.size w.heap.size W W') (hbk : BookN W' w.heap.size w.heap.size N' F') : TellS w W' N' F' A B C D zs us is ts :=
  ⟨h.hb.trans hk.bel, hbk, h.a.keep hk (Nat.lt_succ_self _), h.b.keep hk (Nat.lt_succ_self _), h.c.keep hk (Nat.lt_succ_self _), h.d.keep hk (Nat.lt_succ_self _)⟩
end

theorem RdI.up {w W : World} {p : Option Addr} {n : Nat} {zs : List Int} (h : RdI w w.heap.size p n zs) (hb : Below w.heap.size w W) : RdI W W.heap.size p n zs := (h.below hb).more hb.size
theorem owns_up {w W : World} {base n : Nat} {v : Value} {xs : List Value} (h : w.ownsRow base 3 1 v n xs) (hb : Below w.heap.size w W) : W.ownsRow base 3 1 v n xs := (Fr.of_all (S := fun _ => False) hb).owns h (fun _ _ h => h)
theorem Lent.down {w : World} {base base' : Nat} {v : Value} {zs : List Int} (h : Lent w base v zs) (hb : base' ≤ base) : Lent w base' v zs := by
  obtain ⟨g, cap, e, ho⟩ := h
  exact ⟨g, cap, e, owns_down ho hb⟩
theorem chRow_length (zs : List Int) (add : Bool) (id : Int) : (CL.chRow zs add id).length ≤ zs.length + 1 := by
  have h1 := CL.nrm_length zs
  unfold CL.chRow CL.change
  split
  · simp
  · split
    · split
      · simp
      · split
        · simp
        · have h2 := CL.nrm_length (CL.nrm zs ++ [id])
          simp only [Option.getD_some]
          rw [List.length_append] at h2
          simp only [List.length_singleton] at h2
          omega
    · split
      · simp
      · split
        · simp
        · have h2 := List.length_filter_le (fun x => !(x == id)) (CL.nrm zs)
          simp only [Option.getD_some]
          omega
theorem iff_bool {a b : Bool} {P : Prop} (h : a = true ↔ P) (k : b = true ↔ P) : a = b := by
  cases a <;> cases b <;> simp_all
theorem ne_same_int (x : Int) : (x != x) = false := by simp
theorem ne_same_bool (x : Bool) : (x != x) = false := by simp

set_option maxHeartbeats 2000000 in
set_option maxRecDepth 100000 in
theorem tells_no (p q r s : Option Addr) (n c m d k f j g : Nat) (add : Bool) (id x : Int) (w : World) (h : 60 < n ∨ 60 < m ∨ 60 < k ∨ 60 < j) : Calls Tryz.prog 3 #[.slice p n c, .slice q m d, .slice r k f, .slice s j g, .bool add, .int .i64 id, .int .i64 x] w fun e w' => e = .returned (.bool true) ∧ Below w.heap.size w w' := by
  have HA := Lib.hid (fun w => alive_true w)
  have h6 : 60 < n ∨ (¬ 60 < n ∧ 60 < m) ∨ (¬ 60 < n ∧ ¬ 60 < m ∧ 60 < k) ∨ (¬ 60 < n ∧ ¬ 60 < m ∧ ¬ 60 < k ∧ 60 < j) := by omega
  clear h
  rcases h6 with h1 | ⟨h1, h2⟩ | ⟨h1, h2, h3⟩ | ⟨h1, h2, h3, h4⟩
  all_goals
    go_enter Tryz.func3, Tryz.ntmps3
    go_wp2_with fail
    refine (HA.out _).mono ?_
    rintro e w3 ⟨rfl, hb3⟩
    have HB := Lib.hid hb3
    clear hb3
    go_wp2
    go_ret
    exact ⟨rfl, HB.out⟩

set_option maxHeartbeats 8000000 in
set_option maxRecDepth 100000 in
theorem tells_yes (p q r s : Option Addr) (n c m d k f j g : Nat) (zs us is ts : List Int) (add : Bool) (id x : Int) (w : World) (h1 : RdI w w.heap.size p n zs) (h2 : RdI w w.heap.size q m us) (h3 : RdI w w.heap.size r k is) (h4 : RdI w w.heap.size s j ts)
    (p0 : p = none → c = 0) (q0 : q = none → d = 0) (r0 : r = none → f = 0) (s0 : s = none → g = 0) (hn : n ≤ 60) (hm : m ≤ 60) (hk : k ≤ 60) (hj : j ≤ 60) (hx : x ≤ 9223372036854775807) :
    Calls Tryz.prog 3 #[.slice p n c, .slice q m d, .slice r k f, .slice s j g, .bool add, .int .i64 id, .int .i64 x] w fun e w' => e = .returned (.bool true) ∧ Below w.heap.size w w' := by
  have HA := Lib.hid (fun w => alive_true w)
  have H1 := Lib.hid h1
  have H2 := Lib.hid h2
  have H3 := Lib.hid h3
  have H4 := Lib.hid h4
  have P0 := Lib.hid p0
  have Q0 := Lib.hid q0
  have R0 := Lib.hid r0
  have S0 := Lib.hid s0
  have HX := Lib.hid hx
  have HL1 : Hid ((CL.nrm zs).length ≤ 60) := Lib.hid (by have := CL.nrm_length zs; have := h1.1; omega)
  obtain ⟨N1, hN1⟩ : ∃ N, (CL.nrm zs).length = N := ⟨_, rfl⟩
  obtain ⟨N2, hN2⟩ : ∃ N, (CL.chRow zs add id).length = N := ⟨_, rfl⟩
  have HN1 := Lib.hid hN1
  have HN2 := Lib.hid hN2
  have hN1' : N1 ≤ 1000 := by have := HL1.out; omega
  have HL2 : Hid (N2 ≤ 1000) := Lib.hid (by
    have := chRow_length zs add id
    have := h1.1
    omega)
  clear h1 h2 h3 h4 p0 q0 r0 s0 hx hN1 hN2
  go_enter Tryz.func3, Tryz.ntmps3
  go_wp2
  go_loopw [16] (fun iv wr => ∃ t : Nat, t ≤ 2 ∧ iv = .int .i64 t ∧ Hid (Below w.heap.size w wr) ∧ Hid (∃ F, BookN wr w.heap.size w.heap.size (2 * t) F)) (fun iv _ => 2 - (intOf iv).toNat)
  case atStart => exact ⟨0, by omega, rfl, Lib.hid ((Below.refl _ w).alloc (Nat.le_refl _) _), Lib.hid ⟨_, bookN_new w _⟩⟩
  case round =>
    obtain ⟨t, ht, rfl, HB, HBK⟩ := hrel
    by_cases hlt : t < 2
    · have hltI : (t : Int) < 2 := by omega
      obtain ⟨F, hbk⟩ := HBK.out
      have HSB : Hid (w.heap.size + 1 ≤ wr.heap.size) := Lib.hid (hbk.lt _ hbk.ptr)
      have HBK0 := Lib.hid hbk
      clear hbk HBK
      have HB0 := HB
      have HC := Lib.hid (lent_ints p n c zs wr (H1.out.up HB0.out) P0.out (by omega))
      go_wp2_with fail
      refine HC.out.mono ?_
      rintro e w1 ⟨qa, da, rfl, hl, hb⟩
      have HB1 : Hid (Below w.heap.size w w1) := Lib.hid (HB0.out.trans (hb.mono HB0.out.size))
      have HBK1 := Lib.hid (HBK0.out.below hb)
      have HSB1 : Hid (w.heap.size + 1 ≤ w1.heap.size) := Lib.hid (Nat.le_trans HSB.out hb.size)
      have La1 : Hid (Lent w1 (w.heap.size + 1) (.slice qa n da) zs) := Lib.hid (hl.down HSB.out)
      clear hl hb HC HBK0 HSB
      have HC := Lib.hid (lent_ints q m d us w1 (H2.out.up HB1.out) Q0.out (by omega))
      go_wp2_with fail
      refine HC.out.mono ?_
      rintro e w2 ⟨qb, db, rfl, hl, hb⟩
      have HB2 : Hid (Below w.heap.size w w2) := Lib.hid (HB1.out.trans (hb.mono HB1.out.size))
      have HBK2 := Lib.hid (HBK1.out.below hb)
      have HSB2 : Hid (w.heap.size + 1 ≤ w2.heap.size) := Lib.hid (Nat.le_trans HSB1.out hb.size)
      have La2 := Lib.hid (La1.out.below hb)
      have Lb2 : Hid (Lent w2 (w.heap.size + 1) (.slice qb m db) us) := Lib.hid (hl.down HSB1.out)
      clear hl hb HC HBK1 HB1 HSB1
      clear La1
      have HC := Lib.hid (lent_ints r k f is w2 (H3.out.up HB2.out) R0.out (by omega))
      go_wp2_with fail
      refine HC.out.mono ?_
      rintro e w3 ⟨qc, dc, rfl, hl, hb⟩
      have HB3 : Hid (Below w.heap.size w w3) := Lib.hid (HB2.out.trans (hb.mono HB2.out.size))
      have HBK3 := Lib.hid (HBK2.out.below hb)
      have HSB3 : Hid (w.heap.size + 1 ≤ w3.heap.size) := Lib.hid (Nat.le_trans HSB2.out hb.size)
      have La3 := Lib.hid (La2.out.below hb)
      have Lb3 := Lib.hid (Lb2.out.below hb)
      have Lc3 : Hid (Lent w3 (w.heap.size + 1) (.slice qc k dc) is) := Lib.hid (hl.down HSB2.out)
      clear hl hb HC HBK2 HB2 HSB2
      clear La2 Lb2
      have HC := Lib.hid (lent_ints s j g ts w3 (H4.out.up HB3.out) S0.out (by omega))
      go_wp2_with fail
      refine HC.out.mono ?_
      rintro e w4 ⟨qd, dd, rfl, hl, hb⟩
      have HB4 : Hid (Below w.heap.size w w4) := Lib.hid (HB3.out.trans (hb.mono HB3.out.size))
      have HBK4 := Lib.hid (HBK3.out.below hb)
      have HSB4 : Hid (w.heap.size + 1 ≤ w4.heap.size) := Lib.hid (Nat.le_trans HSB3.out hb.size)
      have La4 := Lib.hid (La3.out.below hb)
      have Lb4 := Lib.hid (Lb3.out.below hb)
      have Lc4 := Lib.hid (Lc3.out.below hb)
      have Ld4 : Hid (Lent w4 (w.heap.size + 1) (.slice qd j dd) ts) := Lib.hid (hl.down HSB3.out)
      clear hl hb HC HBK3 HB3 HSB3
      clear La3 Lb3 Lc3
      have T4 : Hid (TellS w w4 (2 * t) F (.slice qa n da) (.slice qb m db) (.slice qc k dc) (.slice qd j dd) zs us is ts) := Lib.hid ⟨HB4.out, HBK4.out, La4.out, Lb4.out, Lc4.out, Ld4.out⟩
      clear HB4 HBK4 La4 Lb4 Lc4 Ld4
      have HC := Lib.hid (norm_ints qa n da zs w4 T4.out.a.rd (by omega) N1 HN1.out)
      go_wp2_with fail
      refine HC.out.mono ?_
      rintro e w5 ⟨qx, dx, rfl, ho, hb⟩
      have T5 := Lib.hid (T4.out.below hb)
      have HS45 := Lib.hid hb.size
      have X5 := Lib.hid ho
      have EX : Hid (∀ b, (Value.slice qx N1 dx).ownBlock = some b → w4.heap.size ≤ b ∧ b < w5.heap.size) := Lib.hid (fun b hb => ho.lt b hb)
      clear ho hb HC
      have HC := Lib.hid (change_code qa n da zs add id w5 T5.out.a.rd (by omega))
      go_wp2_with fail
      refine HC.out.mono ?_
      rintro e w6 ⟨vy, rfl, ho, hb⟩
      obtain ⟨qy, dy, hvy⟩ := owns_form ho
      rw [HN2.out] at ho hvy
      subst hvy
      have T6 := Lib.hid (T5.out.below hb)
      have HS56 := Lib.hid hb.size
      have X6 := Lib.hid (owns_up X5.out hb)
      have Y6 := Lib.hid ho
      have EY : Hid (∀ b, (Value.slice qy N2 dy).ownBlock = some b → w5.heap.size ≤ b ∧ b < w6.heap.size) := Lib.hid (fun b hb => ho.lt b hb)
      clear ho hb HC X5
      have HC := Lib.hid (ref_change p n c zs add id w6 (H1.out.up T6.out.hb) (by omega))
      go_wp2_with fail
      refine HC.out.mono ?_
      rintro e w7 ⟨vz, rfl, ho, hb⟩
      obtain ⟨qz, dz, hvz⟩ := owns_form ho
      rw [HN2.out] at ho hvz
      subst hvz
      have T7 := Lib.hid (T6.out.below hb)
      have HS67 := Lib.hid hb.size
      have X7 := Lib.hid (owns_up X6.out hb)
      have Y7 := Lib.hid (owns_up Y6.out hb)
      have Z7 := Lib.hid ho
      clear ho hb HC X6
      have DX : Hid (∀ b, (Value.slice qx N1 dx).ownBlock = some b → ¬ F b) := Lib.hid (fun b hb hF => by have h1 := (EX.out b hb).1; have h2 := T4.out.bk.lt b hF; omega)
      have HSW : Hid (w.heap.size + 1 ≤ w4.heap.size) := HSB4
      have HC := Lib.hid (bookN_add T7.out.bk (.slice qx N1 dx) w4.heap.size N1 (CL.nrm zs) X7.out HN1.out (by omega) DX.out (by omega) (by have := HSW.out; omega) (Nat.le_refl _))
      go_wp2_with fail
      refine HC.out.mono ?_
      rintro e w8 ⟨rfl, hbk, hkp⟩
      have X8 := Lib.hid (hkp.own _ _ _ _ X7.out (fun e => by have h1 := (EX.out _ e).1; have h2 := HSW.out; omega))
      have Y8 := Lib.hid (hkp.own _ _ _ _ Y7.out (fun e => by have h1 := (EY.out _ e).1; have h2 := HSW.out; have h3 := HS45.out; omega))
      have Z8 := Lib.hid (hkp.own _ _ _ _ Z7.out (fun e => by have h1 := (Z7.out.lt _ e).1; have h2 := HSW.out; have h3 := HS45.out; have h4 := HS56.out; omega))
      have T8 := Lib.hid (T7.out.next hkp hbk)
      have DY : Hid (∀ b, (Value.slice qy N2 dy).ownBlock = some b → ¬ (F b ∨ (Value.slice qx N1 dx).ownBlock = some b ∨ (w7.heap.size ≤ b ∧ b < w8.heap.size))) := Lib.hid (fun b hb hF => by
        have h1 := EY.out b hb
        have h4 := HS45.out
        have h5 := HS67.out
        rcases hF with hF | hF | hF
        · have h2 := T4.out.bk.lt b hF; omega
        · have h2 := EX.out b hF; omega
        · omega)
      clear hbk hkp HC DX X7 Y7 Z7 T7
      have HC := Lib.hid (bookN_add T8.out.bk (.slice qy N2 dy) w5.heap.size N2 (CL.chRow zs add id) Y8.out HN2.out HL2.out DY.out (by omega) (by have := HSW.out; have := HS45.out; omega) (Nat.le_refl _))
      go_wp2_with fail
      refine HC.out.mono ?_
      rintro e w9 ⟨rfl, hbk, hkp⟩
      have X9 := Lib.hid (hkp.own _ _ _ _ X8.out (fun e => by have h1 := (EX.out _ e).1; have h2 := HSW.out; omega))
      have Y9 := Lib.hid (hkp.own _ _ _ _ Y8.out (fun e => by have h1 := (EY.out _ e).1; have h2 := HSW.out; have h3 := HS45.out; omega))
      have Z9 := Lib.hid (hkp.own _ _ _ _ Z8.out (fun e => by have h1 := (Z8.out.lt _ e).1; have h2 := HSW.out; have h3 := HS45.out; have h4 := HS56.out; omega))
      have T9 := Lib.hid (T8.out.next hkp hbk)
      have HRX := Lib.hid (RdI.of_own X9.out HN1.out)
      have HRY := Lib.hid (RdI.of_own Y9.out HN2.out)
      have HRZ := Lib.hid (RdI.of_own Z9.out HN2.out)
      clear hbk hkp HC DY X8 Y8 Z8 T8 X9 Y9 Z9 EX EY HS45 HS56 HS67 HSW HSB4 T4 T5 T6
      have HC := Lib.hid (ref_norm p n c zs w9 (H1.out.up T9.out.hb) (by omega))
      go_wp2_with fail
      refine HC.out.mono ?_
      rintro e w10 ⟨vr, rfl, ho, hb⟩
      obtain ⟨qr, dr, hvr⟩ := owns_form ho.1
      rw [HN1.out] at hvr
      subst hvr
      have HRR := Lib.hid ho.rd.1
      clear ho
      have T10 := Lib.hid (T9.out.below hb)
      replace HRX := Lib.hid (HRX.out.up hb)
      replace HRY := Lib.hid (HRY.out.up hb)
      replace HRZ := Lib.hid (HRZ.out.up hb)
      clear T9 HC
      clear hb
      have HC := Lib.hid (same_ints qx qr N1 dx N1 dr (CL.nrm zs) (CL.nrm zs) w10 _ _ HRX.out HRR.out (by omega) (by omega))
      go_wp2_with fail
      refine HC.out.mono ?_
      rintro e w11 ⟨b, mm, rfl, hq, hw⟩
      obtain rfl : b = true := hq.2 rfl
      have hb : Below w10.heap.size w10 w11 := by rw [hw]; exact (Fr.refl (fun _ => False) _).drewN _ |>.below (Nat.le_refl _) (fun _ h => h.elim)
      have T11 := Lib.hid (T10.out.below hb)
      replace HRX := Lib.hid (HRX.out.up hb)
      replace HRY := Lib.hid (HRY.out.up hb)
      replace HRZ := Lib.hid (HRZ.out.up hb)
      clear T10 HC
      clear hb hw hq HRR
      have HC := Lib.hid (valid_ints qa n da _ zs w11 T11.out.a.rd)
      go_wp2_with fail
      refine HC.out.mono ?_
      rintro e w12 ⟨b1, mm, rfl, hq1, hw⟩
      have hb : Below w11.heap.size w11 w12 := by rw [hw]; exact (Fr.refl (fun _ => False) _).drewN _ |>.below (Nat.le_refl _) (fun _ h => h.elim)
      have T12 := Lib.hid (T11.out.below hb)
      replace HRX := Lib.hid (HRX.out.up hb)
      replace HRY := Lib.hid (HRY.out.up hb)
      replace HRZ := Lib.hid (HRZ.out.up hb)
      clear T11 HC
      have HQ1 := Lib.hid hq1
      clear hb hw hq1
      have HC := Lib.hid (ref_valid p n c _ zs w12 (H1.out.up T12.out.hb) (Nat.le_refl _) (by omega))
      go_wp2_with fail
      refine HC.out.mono ?_
      rintro e w13 ⟨b2, rfl, hq2, hb⟩
      obtain rfl : b1 = b2 := iff_bool HQ1.out hq2
      have hne := ne_same_bool b1
      have T13 := Lib.hid (T12.out.below hb)
      replace HRX := Lib.hid (HRX.out.up hb)
      replace HRY := Lib.hid (HRY.out.up hb)
      replace HRZ := Lib.hid (HRZ.out.up hb)
      clear T12 HC
      clear hb hq2 HQ1
      have hd := ne_same_bool (decide (id ∈ zs))
      generalize hgd : decide (id ∈ zs) = bd at hd
      have HC := Lib.hid (hgd ▸ has_ints qa n da _ zs id w13 T13.out.a.rd (by omega))
      go_wp2_with fail
      refine HC.out.mono ?_
      rintro e w' ⟨rfl, hw⟩
      subst hw
      clear HC
      have HC := Lib.hid (hgd ▸ ref_has p n c _ zs id w13 (H1.out.up T13.out.hb) (by omega))
      go_wp2_with fail
      refine HC.out.mono ?_
      rintro e w' ⟨rfl, hw⟩
      subst hw
      clear HC
      clear hgd
      have hqn := ne_same_int (quoZ x)
      generalize hgq : quoZ x = qw at hqn
      have HC := Lib.hid (hgq ▸ conf_quorum x w13 HX.out)
      go_wp2_with fail
      refine HC.out.mono ?_
      rintro e w' ⟨rfl, hw⟩
      subst hw
      clear HC
      have HC := Lib.hid (hgq ▸ ref_quorum x w13 HX.out)
      go_wp2_with fail
      refine HC.out.mono ?_
      rintro e w' ⟨rfl, hw⟩
      subst hw
      clear HC
      clear hgq
      have hwn := ne_same_bool (CL.won zs us)
      generalize hgw : CL.won zs us = bw at hwn
      have HC := Lib.hid (hgw ▸ won_ints qa qb n da m db zs us w13 T13.out.a.rd T13.out.b.rd (by omega) (by omega))
      go_wp2_with fail
      refine HC.out.mono ?_
      rintro e w14 ⟨rfl, hb⟩
      have T14 := Lib.hid (T13.out.below hb)
      replace HRX := Lib.hid (HRX.out.up hb)
      replace HRY := Lib.hid (HRY.out.up hb)
      replace HRZ := Lib.hid (HRZ.out.up hb)
      clear T13 HC hb
      have HC := Lib.hid (hgw ▸ ref_won p q n c m d zs us w14 (H1.out.up T14.out.hb) (H2.out.up T14.out.hb) (by omega) (by omega))
      go_wp2_with fail
      refine HC.out.mono ?_
      rintro e w15 ⟨rfl, hb⟩
      have T15 := Lib.hid (T14.out.below hb)
      replace HRX := Lib.hid (HRX.out.up hb)
      replace HRY := Lib.hid (HRY.out.up hb)
      replace HRZ := Lib.hid (HRZ.out.up hb)
      clear T14 HC hb
      clear hgw
      have hrn := ne_same_int (CL.reached zs is ts)
      generalize hgr : CL.reached zs is ts = vr at hrn
      have HC := Lib.hid (hgr ▸ reached_ints qa qc qd n da k dc j dd zs is ts w15 T15.out.a.rd T15.out.c.rd T15.out.d.rd (by omega) (by omega) (by omega))
      go_wp2_with fail
      refine HC.out.mono ?_
      rintro e w16 ⟨rfl, hb⟩
      have T16 := Lib.hid (T15.out.below hb)
      replace HRX := Lib.hid (HRX.out.up hb)
      replace HRY := Lib.hid (HRY.out.up hb)
      replace HRZ := Lib.hid (HRZ.out.up hb)
      clear T15 HC hb
      have HC := Lib.hid (hgr ▸ ref_reached p r s n c k f j g zs is ts w16 (H1.out.up T16.out.hb) (H3.out.up T16.out.hb) (H4.out.up T16.out.hb) (by omega) (by omega) (by omega))
      go_wp2_with fail
      refine HC.out.mono ?_
      rintro e w17 ⟨rfl, hb⟩
      have T17 := Lib.hid (T16.out.below hb)
      replace HRX := Lib.hid (HRX.out.up hb)
      replace HRY := Lib.hid (HRY.out.up hb)
      replace HRZ := Lib.hid (HRZ.out.up hb)
      clear T16 HC hb
      clear hgr
      have HC := Lib.hid (same_ints qy qz N2 dy N2 dz (CL.chRow zs add id) (CL.chRow zs add id) w17 _ _ HRY.out HRZ.out (by have := HL2.out; omega) (by have := HL2.out; omega))
      go_wp2_with fail
      refine HC.out.mono ?_
      rintro e w18 ⟨b3, mm, rfl, hq, hw⟩
      obtain rfl : b3 = true := hq.2 rfl
      have hb : Below w17.heap.size w17 w18 := by rw [hw]; exact (Fr.refl (fun _ => False) _).drewN _ |>.below (Nat.le_refl _) (fun _ h => h.elim)
      have T18 := Lib.hid (T17.out.below hb)
      clear T17 HC hb
      clear hw hq HRX HRY HRZ
      have hcn := ne_same_int (CL.chCode zs add id)
      generalize CL.chCode zs add id = cc at *
      have hnn := ne_same_bool (CL.near zs us)
      generalize hgn : CL.near zs us = bn at hnn
      have HC := Lib.hid (hgn ▸ near_ints qa qb n da m db zs us w18 T18.out.a.rd T18.out.b.rd T18.out.a.some_at T18.out.b.some_at (by omega) (by omega))
      go_wp2_with fail
      refine HC.out.mono ?_
      rintro e w19 ⟨rfl, hb⟩
      have T19 := Lib.hid (T18.out.below hb)
      clear T18 HC hb
      have HC := Lib.hid (hgn ▸ ref_near p q n c m d zs us w19 (H1.out.up T19.out.hb) (H2.out.up T19.out.hb) (by omega) (by omega))
      go_wp2_with fail
      refine HC.out.mono ?_
      rintro e w20 ⟨rfl, hb⟩
      have T20 := Lib.hid (T19.out.below hb)
      clear T19 HC hb
      clear hgn
      have HC := Lib.hid (stays_ints _ qa p n da n c zs w20 T20.out.a (H1.out.up T20.out.hb) (by omega))
      go_wp2_with fail
      refine HC.out.mono ?_
      rintro e w21 ⟨rfl, hb⟩
      have T21 := Lib.hid (T20.out.below hb)
      clear T20 HC hb
      have HC := Lib.hid (stays_ints _ qb q m db m d us w21 T21.out.b (H2.out.up T21.out.hb) (by omega))
      go_wp2_with fail
      refine HC.out.mono ?_
      rintro e w22 ⟨rfl, hb⟩
      have T22 := Lib.hid (T21.out.below hb)
      clear T21 HC hb
      have HC := Lib.hid (stays_ints _ qc r k dc k f is w22 T22.out.c (H3.out.up T22.out.hb) (by omega))
      go_wp2_with fail
      refine HC.out.mono ?_
      rintro e w23 ⟨rfl, hb⟩
      have T23 := Lib.hid (T22.out.below hb)
      clear T22 HC hb
      have HC := Lib.hid (stays_ints _ qd s j dd j g ts w23 T23.out.d (H4.out.up T23.out.hb) (by omega))
      go_wp2_with fail
      refine HC.out.mono ?_
      rintro e w24 ⟨rfl, hb⟩
      have T24 := Lib.hid (T23.out.below hb)
      clear T23 HC hb
      have HBE := Lib.hid T24.out.hb
      have HKE : Hid (∃ F, BookN w24 w.heap.size w.heap.size (2 * (t + 1)) F) := Lib.hid ⟨_, T24.out.bk⟩
      clear T24
      go_wp2
      go_roundw
      case rel => exact ⟨t + 1, by omega, by go_num, HBE, HKE⟩
      case measure => simp [intOf]; omega
    · obtain rfl : t = 2 := by omega
      obtain ⟨F, hbk⟩ := HBK.out
      have HBK0 := Lib.hid hbk
      clear hbk HBK
      go_wp2_with fail
      refine (HA.out _).mono ?_
      rintro e w3 ⟨rfl, hb3⟩
      have HB3 : Hid (Below w.heap.size w w3) := Lib.hid (HB.out.trans (hb3.mono HB.out.size))
      have HC := Lib.hid (bookN_apart (HBK0.out.below hb3) (by omega) (Nat.le_refl _))
      clear hb3
      go_wp2_with fail
      refine HC.out.mono ?_
      rintro e w4 ⟨rfl, hb4⟩
      have HB4 : Hid (Below w.heap.size w w4) := Lib.hid (HB3.out.trans hb4)
      clear hb4
      go_wp2
      go_ret
      exact ⟨rfl, HB4.out⟩

theorem nil_of_row {k : IntKind} {w : World} {a : Option Addr} {len cap : Nat} {zs : List Int}
    (h : (a = none ∧ len = 0 ∧ cap = 0 ∧ zs = []) ∨ ∃ x, a = some x ∧ len ≤ cap ∧ cap ≤ maxLen ∧ zs.length = cap ∧ (∀ i, i < zs.length → w.cell? (x.add i) = some (.int k (zs.getD i 0))) ∧ ∀ n ∈ zs, (Lit.int k n).wf = true) : a = none → cap = 0 := fun e => by
  rcases h with ⟨_, _, h, _⟩ | ⟨x, h, _⟩
  · exact h
  · rw [e] at h; cases h
theorem le_of_wf {n : Int} (h : (Lit.int .i64 n).wf = true) : n ≤ 9223372036854775807 := by
  have h2 := of_decide_eq_true (Bool.and_eq_true_iff.1 h).2
  have e : IntKind.max .i64 = 9223372036854775807 := by decide
  rw [e] at h2
  exact h2

theorem confTells_walk (p q r s : Option Addr) (n c m d k f j g : Nat) (zs us is ts : List Int) (add : Bool) (id x : Int) (w : World) (h1 : RdI w w.heap.size p n zs) (h2 : RdI w w.heap.size q m us) (h3 : RdI w w.heap.size r k is) (h4 : RdI w w.heap.size s j ts)
    (p0 : p = none → c = 0) (q0 : q = none → d = 0) (r0 : r = none → f = 0) (s0 : s = none → g = 0) (hx : x ≤ 9223372036854775807) :
    Calls Tryz.prog 3 #[.slice p n c, .slice q m d, .slice r k f, .slice s j g, .bool add, .int .i64 id, .int .i64 x] w fun e w' => e = .returned (.bool true) ∧ Below w.heap.size w w' := by
  by_cases h : 60 < n ∨ 60 < m ∨ 60 < k ∨ 60 < j
  · exact tells_no p q r s n c m d k f j g add id x w h
  · exact tells_yes p q r s n c m d k f j g zs us is ts add id x w h1 h2 h3 h4 p0 q0 r0 s0 (by omega) (by omega) (by omega) (by omega) hx
end Go.Proofs.YtmfidemkmmbioaaGreat
