/- arboretumlaw6.FreeChains: the walk. -/
import Derived.Test.YtedcpckocedcoaaGreatFCf
import Derived.Test.YtedcpckocedcoaaGreatG2
namespace Go.Proofs.YtedcpckocedcoaaGreat
open Go.RowKit

/-- Where the law stands ahead of a round. -/
def FCI (w : World) (bb k : Nat) (W : World) : Prop := ∃ F, BookN2 W bb bb k k F ∧ Below w.heap.size w W ∧ (∀ b, F b → bb ≤ b)

theorem own_cap {W : World} {b n c : Nat} {e : TypeId} {p : Option Addr} {xs : List Value} (h : W.ownsRow b e 1 (.slice p n c) n xs) : n ≤ c := by
  obtain ⟨_, h2⟩ := h
  rcases h2 with ⟨_, h3⟩ | ⟨g, cap, cur, e, _, _, h3, _⟩
  · omega
  · injection e with _ _ e
    omega
theorem own_more {W W' : World} {b n : Nat} {e : TypeId} {v : Value} {xs : List Value} (h : W.ownsRow b e 1 v n xs) (hB : Below W.heap.size W W') : W'.ownsRow b e 1 v n xs := (Fr.of_all (S := fun _ => False) hB).owns h (fun _ _ h => h)
theorem lent_more {W W' : World} {b : Nat} {v : Value} {zs : List Int} (h : Lent W b v zs) (hB : Below W.heap.size W W') : Lent W' b v zs := by
  obtain ⟨g, cap, e, ho⟩ := h
  exact ⟨g, cap, e, own_more ho hB⟩
theorem lentT_more {W W' : World} {b : Nat} {v : Value} {zs : List ByteArray} (h : LentT W b v zs) (hB : Below W.heap.size W W') : LentT W' b v zs := by
  obtain ⟨g, cap, e, ho⟩ := h
  exact ⟨g, cap, e, own_more ho hB⟩
theorem lent_cap {W : World} {b n c : Nat} {p : Option Addr} {zs : List Int} (h : Lent W b (.slice p n c) zs) : n ≤ c := by
  obtain ⟨g, cap, e, ho⟩ := h
  injection e with _ e1 e2
  have := own_cap ho
  omega
theorem el_le_sum : ∀ (bs : List ByteArray) (i : Nat), i < bs.length → (HL.el bs i).size ≤ sumS bs
  | [], _, h => absurd h (by simp)
  | a :: r, 0, _ => by
    have e : HL.el (a :: r) 0 = a := rfl
    rw [e]
    simp [sumS]
  | a :: r, i + 1, h => by
    have e : HL.el (a :: r) (i + 1) = HL.el r i := by simp [HL.el]
    have h1 := el_le_sum r i (by simpa using h)
    have e2 : sumS (a :: r) = a.size + sumS r := by simp [sumS]
    rw [e, e2]
    omega

theorem same_yes {α : Type} {zs : List α} {W W' : World} {e : Ending} (h : SamePost zs zs W e W') : e = .returned (.bool true) ∧ Below W.heap.size W W' := by
  obtain ⟨b, m, rfl, h1, rfl⟩ := h
  have : b = true := h1.2 rfl
  exact ⟨by rw [this], ((Fr.refl (fun _ => False) W).drewN m).below (Nat.le_refl _) (fun _ h => h.elim)⟩

set_option maxHeartbeats 8000000 in
set_option maxRecDepth 100000 in
theorem fchains_go (p q : Option Addr) (n c m d : Nat) (zs : List Int) (bs : List ByteArray) (w : World) (h : RdI w w.heap.size p n zs) (hp0 : p = none → c = 0) (hz : ∀ i, i < n → HL.el zs i ≤ 9223372036854775807)
    (h2 : RdT w w.heap.size q m bs) (hq0 : q = none → d = 0) (hb : ∀ i, i < m → (HL.el bs i).size ≤ 9223372036854775807) :
    Calls Tryz.prog 4 #[.slice p n c, .slice q m d] w fun e w' => e = .returned (.bool true) ∧ Below w.heap.size w w' := by
  have HA := Lib.hid (fun w => falive_true w)
  have HP := Lib.hid h
  have HQ := Lib.hid h2
  have HP0 := Lib.hid hp0
  have HQ0 := Lib.hid hq0
  have HZ := Lib.hid hz
  have HSH := Lib.hid (book_short q m d bs w h2 hb)
  have hzl : zs.length = n := h.1
  have hql : bs.length = m := h2.1
  clear h h2 hp0 hq0 hz hb
  by_cases hn : 400 < n
  · have hnI : (400 : Int) < (n : Int) := by omega
    have hd : decide ((400 : Int) < (n : Int)) = true := decide_eq_true hnI
    go_enter Tryz.func4, Tryz.ntmps4
    go_wp2_with fail
    with_reducible refine (HA.out _).mono ?_
    rintro e w3 ⟨rfl, hb3⟩
    have HB := Lib.hid hb3
    clear hb3
    go_wp2
    go_ret
    exact ⟨rfl, HB.out⟩
  · have hnI : ¬ (400 : Int) < (n : Int) := by omega
    have hd : decide ((400 : Int) < (n : Int)) = false := decide_eq_false hnI
    go_enter Tryz.func4, Tryz.ntmps4
    go_wp2_with fail
    with_reducible refine HSH.out.mono ?_
    rintro e w1 ⟨⟨r, rfl, hr⟩, hb1⟩
    have HB1 := Lib.hid hb1
    clear hb1
    cases r with
    | false =>
      clear hr
      go_wp2_with fail
      with_reducible refine (HA.out _).mono ?_
      rintro e w3 ⟨rfl, hb3⟩
      have HB : Hid (Below w.heap.size w w3) := Lib.hid (HB1.out.trans (hb3.mono HB1.out.size))
      clear hb3
      go_wp2
      go_ret
      exact ⟨rfl, HB.out⟩
    | true =>
      obtain ⟨hm60, hsum⟩ := hr rfl
      have HSU := Lib.hid hsum
      clear hr hsum HSH
      have HB0 := Lib.hid (bookN2_new w1 53)
      have hw1 := HB1.out.size
      have HBA : Hid (Below w.heap.size w (w1.alloc (.cells (List.replicate 22 (Value.slice none 0 0)).toArray 53))) := Lib.hid (HB1.out.alloc hw1 _)
      go_wp2
      go_loopg [6] 2 (fun gk iv wr => ∃ k : Nat, gk = 2 - k ∧ k ≤ 2 ∧ iv = .int .i64 k ∧ Hid (FCI w w1.heap.size k wr))
      case atStart => exact ⟨0, by omega, by omega, rfl, Lib.hid ⟨_, HB0.out, HBA.out, fun b e => Nat.le_of_eq e.symm⟩⟩
      case round =>
        clear HB0 HBA
        obtain ⟨k, hgk, hk, rfl, hI⟩ := hrel
        subst hgk
        obtain ⟨wo, hwo⟩ : ∃ wo, wo = wr := ⟨_, rfl⟩
        subst hwo
        obtain ⟨F, hbk, hbel, hFb⟩ := hI.out
        have HBK := Lib.hid hbk
        have HBE := Lib.hid hbel
        have HFB := Lib.hid hFb
        have hsz := hbel.size
        have HFL := Lib.hid hbk.lt
        have HPT := Lib.hid hbk.ptr
        have hbw : w1.heap.size < wo.heap.size := HFL.out _ HPT.out
        clear hI hbk hbel hFb
        by_cases hlt : k < 2
        · have hltI : (k : Int) < 2 := by omega
          have d00 : decide ((k : Int) < 2) = true := decide_eq_true hltI
          have HL1 := Lib.hid (lent_ints p n c zs wo ((HP.out.below HBE.out).more hsz) HP0.out (by omega))
          go_wp2_with fail
          with_reducible refine HL1.out.mono ?_
          rintro e w2 ⟨q1, d1, rfl, hl1, hb2⟩
          have HL1 := Lib.hid hl1
          have HBK := Lib.hid (HBK.out.below hb2)
          have h2s := hb2.size
          have HB2 : Hid (Below w.heap.size w w2) := Lib.hid (HBE.out.trans (hb2.mono hsz))
          have HL2 := Lib.hid (lent_texts q m d bs w2 ((HQ.out.below HB2.out).more (by omega)) HQ0.out (by omega))
          go_wp2_with fail
          with_reducible refine HL2.out.mono ?_
          rintro e w3 ⟨q2, d2, rfl, hl2, hb3⟩
          have HL2 := Lib.hid hl2
          have HBK := Lib.hid (HBK.out.below hb3)
          have h3s := hb3.size
          have HB3 : Hid (Below w.heap.size w w3) := Lib.hid (HB2.out.trans (hb3.mono (by omega)))
          have HC4 := Lib.hid (free_chain q1 n d1 zs w3 ((HL1.out.rd.below hb3).more h3s) (by omega) (lent_cap HL1.out))
          have HL1 := Lib.hid (lent_more HL1.out hb3)
          clear hl1 hl2 hb2 hb3
          go_wp2_with fail
          with_reducible refine HC4.out.mono ?_
          rintro e w4 ⟨hch, hb4⟩
          obtain ⟨q3, d3, rfl, ho4⟩ := hch.form
          have h4s := hb4.size
          have HBK := Lib.hid (HBK.out.below hb4)
          have HB4 : Hid (Below w.heap.size w w4) := Lib.hid (HB3.out.trans (hb4.mono (by omega)))
          have HC5 := Lib.hid (ref_chain p n c zs w4 ((HP.out.below HB4.out).more (by omega)) (by omega) HZ.out)
          have HL1 := Lib.hid (lent_more HL1.out hb4)
          have HL2 := Lib.hid (lentT_more HL2.out hb4)
          have HO4 := Lib.hid ho4
          clear hb4 ho4 hch HC4
          go_wp2_with fail
          with_reducible refine HC5.out.mono ?_
          rintro e w5 ⟨hch, hb5⟩
          obtain ⟨q4, d4, rfl, ho5⟩ := hch.form
          have h5s := hb5.size
          have HBK := Lib.hid (HBK.out.below hb5)
          have HB5 : Hid (Below w.heap.size w w5) := Lib.hid (HB4.out.trans (hb5.mono (by omega)))
          have HL1 := Lib.hid (lent_more HL1.out hb5)
          have HL2 := Lib.hid (lentT_more HL2.out hb5)
          have HO4 := Lib.hid (own_more HO4.out hb5)
          have HO5 := Lib.hid ho5
          have HC6 := Lib.hid (free_unchain q2 m d2 bs w5 HL2.out.rd (by omega) (fun i hi => Nat.le_trans (el_le_sum bs i (by omega)) HSU.out))
          clear hb5 ho5 hch HC5
          go_wp2_with fail
          with_reducible refine HC6.out.mono ?_
          rintro e w6 ⟨hch, hb6⟩
          obtain ⟨q5, d5, rfl, ho6⟩ := hch.form
          have h6s := hb6.size
          have HBK := Lib.hid (HBK.out.below hb6)
          have HB6 : Hid (Below w.heap.size w w6) := Lib.hid (HB5.out.trans (hb6.mono (by omega)))
          have HL1 := Lib.hid (lent_more HL1.out hb6)
          have HL2 := Lib.hid (lentT_more HL2.out hb6)
          have HO4 := Lib.hid (own_more HO4.out hb6)
          have HO5 := Lib.hid (own_more HO5.out hb6)
          have HO6 := Lib.hid ho6
          have HC7 := Lib.hid (ref_unchain q m d bs w6 ((HQ.out.below HB6.out).more (by omega)) (by omega) (fun i hi => Nat.le_trans (el_le_sum bs i (by omega)) HSU.out))
          clear hb6 ho6 hch HC6
          go_wp2_with fail
          with_reducible refine HC7.out.mono ?_
          rintro e w7 ⟨hch, hb7⟩
          obtain ⟨q6, d6, rfl, ho7⟩ := hch.form
          have h7s := hb7.size
          have HBK := Lib.hid (HBK.out.below hb7)
          have HB7 : Hid (Below w.heap.size w w7) := Lib.hid (HB6.out.trans (hb7.mono (by omega)))
          have HL1 := Lib.hid (lent_more HL1.out hb7)
          have HL2 := Lib.hid (lentT_more HL2.out hb7)
          have HO4 := Lib.hid (own_more HO4.out hb7)
          have HO5 := Lib.hid (own_more HO5.out hb7)
          have HO6 := Lib.hid (own_more HO6.out hb7)
          have HO7 := Lib.hid ho7
          clear hb7 ho7 hch HC7
          have hX : (cL zs).length ≤ 7 := cL_len zs (by omega)
          have hU : (uL bs).length ≤ 1500 := uL_len HSU.out
          have HBF := Lib.hid (fun h : cE zs = 0 => back_form h)
          have hce : (cE zs != cE zs) = false := by simp
          have hue : (uE bs != uE bs) = false := by simp
          generalize cL zs = X at *
          generalize cE zs = ce at *
          generalize uL bs = U at *
          generalize uE bs = ue at *
          have HS1 := Lib.hid (same_texts q3 q4 X.length d3 X.length d4 X X w7 _ _ (RdT.of_own HO4.out rfl) (RdT.of_own HO5.out rfl) (by omega) (by omega))
          go_wp2_with fail
          with_reducible refine HS1.out.mono ?_
          rintro e w8 hsm
          obtain ⟨rfl, hb8⟩ := same_yes hsm
          clear hsm HS1 HO5
          have h8s := hb8.size
          have HB8 : Hid (Below w.heap.size w w8) := Lib.hid (HB7.out.trans (hb8.mono (by omega)))
          have HBK := Lib.hid (HBK.out.below hb8)
          have HL1 := Lib.hid (lent_more HL1.out hb8)
          have HL2 := Lib.hid (lentT_more HL2.out hb8)
          have HO4 := Lib.hid (own_more HO4.out hb8)
          have HO6 := Lib.hid (own_more HO6.out hb8)
          have HO7 := Lib.hid (own_more HO7.out hb8)
          clear hb8
          have HS1 := Lib.hid (same_ints q5 q6 U.length d5 U.length d6 U U w8 _ _ (RdI.of_own HO6.out rfl) (RdI.of_own HO7.out rfl) (by omega) (by omega))
          go_wp2_with fail
          with_reducible refine HS1.out.mono ?_
          rintro e w9 hsm
          obtain ⟨rfl, hb9⟩ := same_yes hsm
          clear hsm HS1 HO7
          have h9s := hb9.size
          have HB9 : Hid (Below w.heap.size w w9) := Lib.hid (HB8.out.trans (hb9.mono (by omega)))
          have HBK := Lib.hid (HBK.out.below hb9)
          have HL1 := Lib.hid (lent_more HL1.out hb9)
          have HL2 := Lib.hid (lentT_more HL2.out hb9)
          have HO4 := Lib.hid (own_more HO4.out hb9)
          have HO6 := Lib.hid (own_more HO6.out hb9)
          clear hb9
          have HS1 := Lib.hid (stays_ints _ q1 p n d1 n c zs w9 HL1.out ((HP.out.below HB9.out).more (by omega)) (by omega))
          go_wp2_with fail
          with_reducible refine HS1.out.mono ?_
          rintro e w10 ⟨rfl, hb10⟩
          clear HS1 HL1
          have h10s := hb10.size
          have HB10 : Hid (Below w.heap.size w w10) := Lib.hid (HB9.out.trans (hb10.mono (by omega)))
          have HBK := Lib.hid (HBK.out.below hb10)
          have HL2 := Lib.hid (lentT_more HL2.out hb10)
          have HO4 := Lib.hid (own_more HO4.out hb10)
          have HO6 := Lib.hid (own_more HO6.out hb10)
          clear hb10
          have HS1 := Lib.hid (stays_texts _ q2 q m d2 m d bs w10 HL2.out ((HQ.out.below HB10.out).more (by omega)) (by omega))
          go_wp2_with fail
          with_reducible refine HS1.out.mono ?_
          rintro e w11 ⟨rfl, hb11⟩
          clear HS1 HL2
          have h11s := hb11.size
          have HB11 : Hid (Below w.heap.size w w11) := Lib.hid (HB10.out.trans (hb11.mono (by omega)))
          have HBK := Lib.hid (HBK.out.below hb11)
          have HO4 := Lib.hid (own_more HO4.out hb11)
          have HO6 := Lib.hid (own_more HO6.out hb11)
          clear hb11
          have HNF : Hid (∀ b, (Value.slice q3 X.length d3).ownBlock = some b → ¬ F b) := Lib.hid (fun b hb hF => by
            have h1 := (HO4.out.lt b hb).1
            have h2 := HFL.out b hF
            omega)
          have HNU : Hid (∀ b, (Value.slice q5 U.length d5).ownBlock = some b → ¬ F b) := Lib.hid (fun b hb hF => by
            have h1 := (HO6.out.lt b hb).1
            have h2 := HFL.out b hF
            omega)
          have HT := Lib.hid (bookN2_texts HBK.out (.slice q3 X.length d3) _ _ X HO4.out rfl (by omega) HNF.out (by omega) (by omega) (Nat.le_refl _))
          go_wp2_with fail
          with_reducible refine HT.out.mono ?_
          rintro e w12 ⟨rfl, hbk12, hfr12, hb12⟩
          have HBK := Lib.hid hbk12
          have h12s := hfr12.size
          have HB12 : Hid (Below w.heap.size w w12) := Lib.hid (HB11.out.trans (hb12.mono hw1))
          have HUX : Hid (∀ b, (Value.slice q5 U.length d5).ownBlock = some b → ¬ (F b ∨ (Value.slice q3 X.length d3).ownBlock = some b ∨ (w11.heap.size ≤ b ∧ b < w12.heap.size))) := Lib.hid (fun b hb hF => by
            rcases hF with hF | hF | hF
            · exact HNU.out b hb hF
            · exact owns_apart HO4.out HO6.out (by decide) hF hb
            · have := (HO6.out.lt b hb).2
              omega)
          have HO4 := Lib.hid (hfr12.owns HO4.out HNF.out)
          have HO6 := Lib.hid (hfr12.owns HO6.out HNU.out)
          clear hbk12 hfr12 hb12 HT
          have HT := Lib.hid (bookN2_ints HBK.out (.slice q5 U.length d5) _ _ U HO6.out rfl (by omega) HUX.out (by omega) (by omega) (Nat.le_refl _))
          go_wp2_with fail
          with_reducible refine HT.out.mono ?_
          rintro e w13 ⟨rfl, hbk13, hfr13, hb13, hkx⟩
          have HO4 := Lib.hid (hkx _ _ _ _ HO4.out (fun e => HNF.out _ e HPT.out))
          have HB13 : Hid (Below w.heap.size w w13) := Lib.hid (HB12.out.trans (hb13.mono hw1))
          have HNX : Hid (∀ V, Below w13.heap.size w13 V → FCI w w1.heap.size (k + 1) V) := Lib.hid (fun V hV => ⟨_, hbk13.below hV, HB13.out.trans (hV.mono (by have := HB13.out.size; omega)), fun b hb => by
            rcases hb with (hb | hb | hb) | hb | hb
            · exact HFB.out b hb
            · have := (HO4.out.lt b hb).1; omega
            · omega
            · have := (HO6.out.lt b hb).1; omega
            · omega⟩)
          clear hbk13 hfr13 hb13 hkx HT HBK
          by_cases hc0 : ce = 0
          · obtain ⟨hu1, hu2, hu3⟩ := HBF.out hc0
            have HC := Lib.hid (free_unchain q3 X.length d3 X w13 (RdT.of_own HO4.out rfl) (by omega) hu3)
            have hcb : (ce == 0) = true := by rw [hc0]; rfl
            have HU1 := Lib.hid hu1
            have HU2 := Lib.hid hu2
            have HC0 := Lib.hid hc0
            clear hu1 hu2 hu3 hc0
            go_wp2_with fail
            with_reducible refine HC.out.mono ?_
            rintro e w14 ⟨hch, hb14⟩
            obtain ⟨q7, d7, rfl, ho14⟩ := hch.form
            rw [HU1.out, hzl] at ho14
            rw [HU1.out, HU2.out, hzl]
            have HS1 := Lib.hid (same_ints q7 p n d7 n c zs zs w14 _ _ (RdI.of_own ho14 hzl) ((HP.out.below (HB13.out.trans (hb14.mono (by have := HB13.out.size; omega)))).more (by have := HB13.out.size; have := hb14.size; omega)) (by omega) (by omega))
            have HB14 := Lib.hid hb14
            clear ho14 hch hb14 HC
            go_wp2_with fail
            with_reducible refine HS1.out.mono ?_
            rintro e w15 hsm
            obtain ⟨rfl, hb15⟩ := same_yes hsm
            have HN := Lib.hid (HNX.out w15 (HB14.out.trans (hb15.mono HB14.out.size)))
            clear hsm hb15 HS1 HNX
            go_wp2
            go_roundg (2 - (k + 1))
            case measure => omega
            case rel => exact ⟨k + 1, rfl, by omega, by go_num, HN⟩
          · have hcb : (ce == 0) = false := by rw [beq_eq_false_iff_ne]; exact hc0
            have HN := Lib.hid (HNX.out w13 (Below.refl _ _))
            clear HNX
            go_wp2
            go_roundg (2 - (k + 1))
            case measure => omega
            case rel => exact ⟨k + 1, rfl, by omega, by go_num, HN⟩
        · obtain rfl : k = 2 := by omega
          have d00 : decide ((((2 : Nat) : Int)) < 2) = false := by decide
          go_wp2_with fail
          with_reducible refine (HA.out _).mono ?_
          rintro e w3 ⟨rfl, hb3⟩
          have HAP := Lib.hid (bookN2_apart (HBK.out.below hb3) (by omega) (by omega) (Nat.le_refl _))
          have HB3 : Hid (Below w.heap.size w w3) := Lib.hid (HBE.out.trans (hb3.mono hsz))
          clear hb3
          go_wp2_with fail
          with_reducible refine HAP.out.mono ?_
          rintro e w4 ⟨rfl, hb4⟩
          have HB4 : Hid (Below w.heap.size w w4) := Lib.hid (HB3.out.trans (hb4.mono hw1))
          clear hb4
          go_wp2
          go_ret
          exact ⟨rfl, HB4.out⟩
end Go.Proofs.YtedcpckocedcoaaGreat
