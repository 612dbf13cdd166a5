/- arboretumref1.Drop: one number out of rising ones, the first that is alike; or none. -/
import Derived.Test.YtedcpckocedcoaaGreatFRefA
namespace Go.Proofs.YtedcpckocedcoaaGreat
open Go.RowKit

theorem erase_at : ∀ (l : List Int) (x : Int) (k : Nat), k < l.length → HL.el l k = x → (∀ i, i < k → HL.el l i ≠ x) → l.erase x = l.take k ++ l.drop (k + 1)
  | y :: l, x, 0, _, h1, _ => by
    have : y = x := h1
    subst this
    simp
  | y :: l, x, k + 1, hk, h1, h2 => by
    have hy : y ≠ x := h2 0 (by omega)
    have ih := erase_at l x k (by simpa using hk) h1 (fun i hi => h2 (i + 1) (by omega))
    rw [List.erase_cons_tail (by simpa using hy), ih]
    simp
theorem not_in {l : List Int} {x : Int} (h : ∀ i, i < l.length → HL.el l i ≠ x) : x ∉ l := fun hx => by
  obtain ⟨i, hi, e⟩ := List.getElem_of_mem hx
  refine h i hi ?_
  have h1 := HL.el_eq l i hi
  rw [List.getElem?_eq_getElem hi] at h1
  injection h1 with h1
  exact h1.symm.trans e

theorem owns_room2 {w : World} {base n cap size : Nat} {q : Option Addr} {e : TypeId} {xs : List Value} (h : w.ownsRow base e size (.slice q n cap) n xs) : n ≤ cap ∧ cap ≤ 9223372036854775807 := by
  rcases h.2 with ⟨h, _⟩ | ⟨_, _, _, h, _, _, hc, hm, _⟩
  · injection h with _ h1 h2
    subst h1 h2
    exact ⟨Nat.le_refl _, by omega⟩
  · injection h with _ _ h
    subst h
    unfold maxLen at hm
    exact ⟨hc, hm⟩

/-- What Drop leaves. -/
def DropR (p : Option Addr) (n c : Nat) (zs : List Int) (x : Int) (w : World) (e : Ending) (w' : World) : Prop :=
  (x ∈ zs ∧ ∃ u, e = .returned (.tuple #[u, .bool true]) ∧ w'.ownsRow w.heap.size 3 1 u (n - 1) (rowOf ncells (zs.erase x)) ∧ Below w.heap.size w w') ∨
  (x ∉ zs ∧ e = .returned (.tuple #[.slice p n c, .bool false]) ∧ w' = w)

set_option maxHeartbeats 4000000 in
set_option maxRecDepth 100000 in
theorem ref_dropI (p : Option Addr) (n c : Nat) (zs : List Int) (x : Int) (w : World) (h : RdI w w.heap.size p n zs) (hn : n ≤ 10000) (hc : n ≤ c) (hcm : c ≤ 9223372036854775807) :
    Calls Tryz.prog 41 #[.slice p n c, .int .i64 x] w (DropR p n c zs x w) := by
  have H := Lib.hid h
  have HL0 := Lib.hid h.1
  clear h
  go_enter Tryz.func41, Tryz.ntmps41
  go_wp2
  go_loopw [6] (fun iv wr => ∃ k : Nat, k ≤ n ∧ iv = .int .i64 k ∧ wr = w ∧ Hid (∀ i, i < k → HL.el zs i ≠ x)) (fun iv _ => n - (intOf iv).toNat)
  case atStart => exact ⟨0, Nat.zero_le _, rfl, rfl, Lib.hid (fun i hi => by omega)⟩
  case round =>
    obtain ⟨k, hk, rfl, rfl, HLE⟩ := hrel
    by_cases hlt : k < n
    · have hltI : (k : Int) < (n : Int) := by omega
      obtain ⟨b, o, e, hb, hc'⟩ := H.out.2 (by omega)
      subst e
      have hcell := hc' k hlt
      clear hc'
      by_cases hy : HL.el zs k = x
      · have HFI : Hid (zs.erase x = zs.take k ++ zs.drop (k + 1)) := Lib.hid (erase_at zs x k (by rw [HL0.out]; exact hlt) hy HLE.out)
        have HMEM : Hid (x ∈ zs) := Lib.hid (by rw [← hy]; exact HL.el_mem zs k (by rw [HL0.out]; exact hlt))
        have hq : (x == x) = true := by simp
        rw [hy] at hcell
        have HT := Lib.hid (H.out.takes hk)
        have HD := Lib.hid (H.out.drops (show k + 1 ≤ n by omega))
        have hd0 : Below wr.heap.size wr wr.drew := ((Fr.refl (fun _ => False) wr).drew).below (Nat.le_refl _) (fun _ h => h.elim)
        have HBd := Lib.hid hd0
        clear hd0 hy HLE
        have hkc : k ≤ c := by omega
        have hkc1 : k + 1 ≤ c := by omega
        have hwr : IntKind.i64.wrap ((k : Int) + 1) = ((k + 1 : Nat) : Int) := by rw [IntWalk.i64_in _ ⟨by omega, by omega⟩]; omega
        have hi0 : (0 : Int) ≤ (k : Int) + 1 := by omega
        have hi1 : (k : Int) + 1 ≤ (n : Int) := by omega
        rcases Nat.lt_or_ge (k + 1) c with hck | hck
        · have hck2 : ¬ c = k + 1 := by omega
          go_wp2_with fail
          refine Mix.region_mix (n := 10) (m := 4) (fun V => ∃ q : Later wr, V = q.1) [0, 1, 2, 4, 5, 6, 7] (by kernel_rfl) rfl rfl (by kernel_rfl) (by kernel_rfl) ⟨⟨wr.drew, HBd.out⟩, rfl⟩ ?_
          repeat (refine Mix.picks_step rfl ?_; go_big_quiet_step (fail))
          refine Mix.picks_nil ?_
          intro inv
          refine sink_one (i := 3) (by kernel_rfl) rfl (by omega) inv (fun K hK => ?_)
          have HKK := Lib.hid hK
          clear hK
          refine step_append_rd rfl _ _ rfl wr.heap.size (.slice none 0 0) 0 [] rfl (World.ownsRow_nil _ _ _ _) _ k _ wr.heap.size (zs.take k) rfl (HT.out.below HBd.out) (fun h => by cases h) (by omega) (by simp) ?_
          intro v3 w3 hown3 hgr3
          have H3 := Lib.hid (rp_one (B := wr.heap.size) (w := wr) HBd.out hown3 hgr3)
          clear hown3 hgr3
          refine HKK.out _ _ ⟨⟨_, H3.out.2⟩, rfl⟩ ?_
          clear HKK inv
          intro hS inv
          (try simp only [Act.put]); (try simp only [List.setIfInBounds_toArray]); (try simp only [List.set_cons_succ]); (try simp only [List.set_cons_zero])
          refine sink_one (i := 8) (by kernel_rfl) rfl (by omega) inv (fun K hK => ?_)
          have HKK := Lib.hid hK
          clear hK
          refine step_append_rd rfl _ _ rfl wr.heap.size v3 k (rowOf ncells (zs.take k)) rfl H3.out.1 _ (n - (k + 1)) _ wr.heap.size (zs.drop (k + 1)) rfl (HD.out.below H3.out.2) (fun h => by cases h) (by omega) (H3.out.2.size) ?_
          intro v5 w5 hown5 hgr5
          have H5 := Lib.hid (rp_two (n := k) H3.out.1 H3.out.2 hown5 (.inl hgr5))
          clear hown5 hgr5
          refine HKK.out _ _ ⟨⟨_, H5.out.2⟩, rfl⟩ ?_
          clear HKK inv
          intro hS inv
          (try simp only [Act.put]); (try simp only [List.setIfInBounds_toArray]); (try simp only [List.set_cons_succ]); (try simp only [List.set_cons_zero])
          refine sink_one (i := 9) (by kernel_rfl) rfl (by omega) inv (fun K hK => ?_)
          have HKK := Lib.hid hK
          clear hK
          go_simp
          refine HKK.out _ _ ⟨⟨_, H5.out.2⟩, rfl⟩ ?_
          clear HKK inv
          intro hS inv
          (try simp only [Act.put]); (try simp only [List.setIfInBounds_toArray]); (try simp only [List.set_cons_succ]); (try simp only [List.set_cons_zero])
          refine sink_last (by kernel_rfl) rfl (by kernel_rfl) (fun K hK => ?_)
          have HKK := Lib.hid hK
          clear hK
          go_simp
          refine HKK.out _ _ ⟨rfl, ?_⟩
          clear HKK inv hS
          go_wp2
          go_ret2
          refine .inl ⟨HMEM.out, v5, rfl, ?_, H5.out.2⟩
          have e := H5.out.1
          rw [show k + (n - (k + 1)) = n - 1 by omega] at e
          rw [HFI.out, rowOf_append]
          exact e
        · obtain rfl : n = k + 1 := by omega
          obtain rfl : c = k + 1 := by omega
          have hkk : (k : Int) ≤ (k : Int) + 1 := by omega
          go_wp2_with fail
          refine Mix.region_mix (n := 10) (m := 4) (fun V => ∃ q : Later wr, V = q.1) [0, 1, 2, 4, 5, 6, 7] (by kernel_rfl) rfl rfl (by kernel_rfl) (by kernel_rfl) ⟨⟨wr.drew, HBd.out⟩, rfl⟩ ?_
          repeat (refine Mix.picks_step rfl ?_; go_big_quiet_step (fail))
          refine Mix.picks_nil ?_
          intro inv
          refine sink_one (i := 3) (by kernel_rfl) rfl (by omega) inv (fun K hK => ?_)
          have HKK := Lib.hid hK
          clear hK
          refine step_append_rd rfl _ _ rfl wr.heap.size (.slice none 0 0) 0 [] rfl (World.ownsRow_nil _ _ _ _) _ k _ wr.heap.size (zs.take k) rfl (HT.out.below HBd.out) (fun h => by cases h) (by omega) (by simp) ?_
          intro v3 w3 hown3 hgr3
          have H3 := Lib.hid (rp_one (B := wr.heap.size) (w := wr) HBd.out hown3 hgr3)
          clear hown3 hgr3
          refine HKK.out _ _ ⟨⟨_, H3.out.2⟩, rfl⟩ ?_
          clear HKK inv
          intro hS inv
          (try simp only [Act.put]); (try simp only [List.setIfInBounds_toArray]); (try simp only [List.set_cons_succ]); (try simp only [List.set_cons_zero])
          refine sink_one (i := 8) (by kernel_rfl) rfl (by omega) inv (fun K hK => ?_)
          have HKK := Lib.hid hK
          clear hK
          refine step_append_rd rfl _ _ rfl wr.heap.size v3 k (rowOf ncells (zs.take k)) rfl H3.out.1 _ 0 _ wr.heap.size [] rfl ⟨rfl, fun h => absurd h (by omega)⟩ (fun h => by cases h) (by omega) (H3.out.2.size) ?_
          intro v5 w5 hown5 hgr5
          have H5 := Lib.hid (rp_two (n := k) H3.out.1 H3.out.2 hown5 (.inl hgr5))
          clear hown5 hgr5
          refine HKK.out _ _ ⟨⟨_, H5.out.2⟩, rfl⟩ ?_
          clear HKK inv
          intro hS inv
          (try simp only [Act.put]); (try simp only [List.setIfInBounds_toArray]); (try simp only [List.set_cons_succ]); (try simp only [List.set_cons_zero])
          refine sink_one (i := 9) (by kernel_rfl) rfl (by omega) inv (fun K hK => ?_)
          have HKK := Lib.hid hK
          clear hK
          go_simp
          refine HKK.out _ _ ⟨⟨_, H5.out.2⟩, rfl⟩ ?_
          clear HKK inv
          intro hS inv
          (try simp only [Act.put]); (try simp only [List.setIfInBounds_toArray]); (try simp only [List.set_cons_succ]); (try simp only [List.set_cons_zero])
          refine sink_last (by kernel_rfl) rfl (by kernel_rfl) (fun K hK => ?_)
          have HKK := Lib.hid hK
          clear hK
          go_simp
          refine HKK.out _ _ ⟨rfl, ?_⟩
          clear HKK inv hS
          go_wp2
          go_ret2
          refine .inl ⟨HMEM.out, v5, rfl, ?_, H5.out.2⟩
          have e := H5.out.1
          rw [HFI.out, List.drop_eq_nil_of_le (by rw [HL0.out]; omega), List.append_nil]
          rw [show k + 1 - 1 = k by omega]
          simpa [rowOf] using e
      · have hq : (HL.el zs k == x) = false := by rw [beq_eq_false_iff_ne]; exact hy
        have HLE2 : Hid (∀ i, i < k + 1 → HL.el zs i ≠ x) := Lib.hid (fun i hi => by
          by_cases e : i = k
          · subst e; exact hy
          · exact HLE.out i (by omega))
        clear HLE hy
        generalize HL.el zs k = y at *
        go_wp2
        go_roundw
        case rel => exact ⟨k + 1, by omega, by go_num, trivial, HLE2⟩
        case measure => simp [intOf]; omega
    · obtain rfl : k = n := by omega
      have HNOT : Hid (x ∉ zs) := Lib.hid (not_in (by rw [HL0.out]; exact HLE.out))
      clear HLE
      go_wp2
      go_ret2
      exact .inr ⟨HNOT.out, rfl, rfl⟩

section
variable {rb base : Nat} {lv wv pv : Value} {L : List Int} {Ws : List (Int × Int)} {P : List Int} {w w' : World}
/-- Another row of pins. -/
theorem RFI.set2 {W : World} {pv' : Value} {P' : List Int} (h : RFI rb base lv wv pv L Ws P w) (hb : Below w.heap.size w W) (ho : W.ownsRow base 3 1 pv' P'.length (rowOf ncells P')) (hne : ∀ g, pv'.ownBlock = some g → pv.ownBlock = some g ∨ w.heap.size ≤ g) :
    RFI rb base lv wv pv' L Ws P' (W.setCell ⟨rb, 2, none⟩ pv') ∧ Fr (fun k => k = rb) w (W.setCell ⟨rb, 2, none⟩ pv') := by
  have hk := h.below hb
  have hrb : rb < w.heap.size := cell_lt h.c0
  have hF : Fr (fun k => k = rb) W (W.setCell ⟨rb, 2, none⟩ pv') := (Fr.refl (fun k => k = rb) W).setCell (p := ⟨rb, 2, none⟩) (fun _ => rfl) _
  have hn : ∀ g, pv'.ownBlock = some g → g ≠ rb := fun g hg e => by
    rcases hne g hg with h1 | h1
    · exact h.pn (by rw [h1, e])
    · omega
  have hoth := Others.set rb 2 W pv'
  have hs := hb.size
  exact ⟨⟨(hoth 0 (by omega)).1.trans hk.c0, (hoth 1 (by omega)).1.trans hk.c1, cell_set_same _ _ _ _ hk.c2, by rw [frozen_set]; exact hk.f0, by rw [frozen_set]; exact hk.f1, by rw [frozen_set]; exact hk.f2, hF.owns hk.lo (fun g hg e => h.ln (by rw [hg, e])), hF.owns hk.wo (fun g hg e => h.wn (by rw [hg, e])), hF.owns ho (fun g hg => hn g hg), h.ln, h.wn, fun e => hn rb e rfl, Nat.le_trans h.bs (Nat.le_trans hs hF.size), h.bb⟩,
    Fr.trans (Fr.of_all (S := fun k => k = rb) hb) hF (fun i hi _ => hi)⟩
end

/-- What Unpin leaves. -/
def UnpinF (rb base : Nat) (lv wv pv : Value) (L : List Int) (Ws : List (Int × Int)) (P : List Int) (x : Int) (w : World) (e : Ending) (w' : World) : Prop :=
  ∃ pv', e = .returned (.bool (decide (x ∈ P))) ∧ RFI rb base lv wv pv' L Ws (P.erase x) w' ∧ Fr (fun k => k = rb) w w' ∧ ∀ g, pv'.ownBlock = some g → pv.ownBlock = some g ∨ w.heap.size ≤ g

set_option maxHeartbeats 4000000 in
set_option maxRecDepth 100000 in
theorem rf_unpin (rb base : Nat) (lv wv pv : Value) (L : List Int) (Ws : List (Int × Int)) (P : List Int) (x : Int) (w : World) (h : RFI rb base lv wv pv L Ws P w) (hn : P.length ≤ 10000) :
    Calls Tryz.prog 19 #[.pointer (some ⟨rb, 0, none⟩), .int .i64 x] w (UnpinF rb base lv wv pv L Ws P x w) := by
  have H := Lib.hid h
  obtain ⟨q, d, hv⟩ := owns_slice h.po
  subst hv
  have c2 := h.c2
  have hlr := cell_lt c2
  have hcap := owns_room2 h.po
  have HD := Lib.hid (ref_dropI q P.length d P x w (RdI.of_own h.po rfl) hn hcap.1 hcap.2)
  have HC : Hid (∀ V, Below w.heap.size w V → V.cell? ⟨rb, 2, none⟩ = some (.slice q P.length d) ∧ V.frozen? ⟨rb, 2, none⟩ = false) := Lib.hid (fun V hV => ⟨(hV.cell (p := ⟨rb, 2, none⟩) hlr).trans h.c2, ((Fr.of_all (S := fun _ => False) hV).frozen (p := ⟨rb, 2, none⟩) hlr (fun h => h)).trans h.f2⟩)
  clear h hcap
  go_enter Tryz.func19, Tryz.ntmps19
  go_wp2_with fail
  refine HD.out.mono ?_
  rintro e w2 (⟨hm, u, rfl, ho, hb⟩ | ⟨hm, rfl, hw⟩)
  · obtain ⟨p2, d2, hv2⟩ := owns_slice ho
    subst hv2
    have hlen : (P.erase x).length = P.length - 1 := List.length_erase_of_mem hm
    have HE : Hid (UnpinF rb base lv wv (.slice q P.length d) L Ws P x w (.returned (.bool true)) (w2.setCell ⟨rb, 2, none⟩ (.slice p2 (P.length - 1) d2))) := Lib.hid (by
      obtain ⟨e1, e2⟩ := H.out.set2 (P' := P.erase x) hb (by rw [hlen]; exact owns_low ho H.out.bs) (fun g hg => .inr (ho.lt g hg).1)
      exact ⟨_, by rw [decide_eq_true hm], e1, e2, fun g hg => .inr (ho.lt g hg).1⟩)
    have c22 := (HC.out w2 hb).1
    have f22 := (HC.out w2 hb).2
    clear ho hb hm hlen HD
    go_wp2
    go_ret
    exact HE.out
  · subst hw
    have HE : Hid (UnpinF rb base lv wv (.slice q P.length d) L Ws P x w2 (.returned (.bool false)) (w2.setCell ⟨rb, 2, none⟩ (.slice q P.length d))) := Lib.hid (by
      have he : P.erase x = P := List.erase_of_not_mem hm
      obtain ⟨e1, e2⟩ := H.out.set2 (P' := P) (Below.refl _ w2) H.out.po (fun g hg => .inl hg)
      exact ⟨_, by rw [decide_eq_false hm], by rw [he]; exact e1, e2, fun g hg => .inl hg⟩)
    have f22 := (HC.out w2 (Below.refl _ _)).2
    clear hm HD
    go_wp2
    go_ret
    exact HE.out
end Go.Proofs.YtedcpckocedcoaaGreat
