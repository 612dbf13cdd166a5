/- The Book of ints: marks, copies; lists with room behind them. -/
import Derived.Test.YtedcpckocedcoaaGreatBkL
import Derived.Test.YtedcpckocedcoaaGreatSame
namespace Go.Proofs.YtedcpckocedcoaaGreat
open Go.RowKit

/-- The mark of place k in list i. -/
def mk (i : Nat) (k : Nat) : Int := -1000000 * (i : Int) - (k : Int) - 7

theorem owns_form {w : World} {base n : Nat} {e : TypeId} {size : Nat} {v : Value} {xs : List Value} (h : w.ownsRow base e size v n xs) : ∃ p c, v = .slice p n c := by
  obtain ⟨p, c, e⟩ := owns_slice h
  exact ⟨p, c, e⟩

set_option maxHeartbeats 2000000 in
set_option maxRecDepth 100000 in
theorem mark_ints (i from' n : Nat) (w : World) (hi : i ≤ 1000) (hf : from' ≤ 100000) (hn : n ≤ 100000) :
    Calls Tryz.prog 126 #[.int .i64 i, .int .i64 from', .int .i64 n] w fun e w' => ∃ v, e = .returned v ∧ w'.ownsRow w.heap.size 3 1 v n (rowOf ncells (lst n (fun k => mk i (from' + k)))) ∧ Below w.heap.size w w' := by
  go_enter Tryz.func126, Tryz.ntmps126
  go_wp2
  go_loopw [7, 8] (fun ov iv wr => ∃ k : Nat, k ≤ n ∧ iv = .int .i64 ((from' : Int) + (k : Int)) ∧ Hid (wr.ownsRow w.heap.size 3 1 ov k (rowOf ncells (lst k (fun k => mk i (from' + k))))) ∧ Hid (Below w.heap.size w wr)) (fun _ iv _ => from' + n - (intOf iv).toNat)
  case atStart => exact ⟨0, Nat.zero_le _, by simp, Lib.hid (World.ownsRow_nil _ _ _ _), Lib.hid (Below.refl _ _)⟩
  case round =>
    obtain ⟨k, hk, rfl, HO, HB⟩ := hrel
    by_cases hlt : k < n
    · have hltI : (from' : Int) + (k : Int) < (from' : Int) + (n : Int) := by omega
      have HX : Hid (mk i (from' + k) = (-1000000 * (i : Int) - ((from' : Int) + (k : Int)) - 7)) := Lib.hid (by unfold mk; omega)
      have hbs := HB.out.size
      obtain ⟨tp, tc, hv⟩ := owns_form HO.out
      subst hv
      have HRD := Lib.hid (rd_new wr [(-1000000 * (i : Int) - ((from' : Int) + (k : Int)) - 7)] 3)
      go_wp2_with (at_builtin; refine append_heads rfl _ _ rfl w.heap.size (.slice tp k tc) k (rowOf ncells (lst k (fun k => mk i (from' + k)))) rfl (HO.out.alloc _) (some ⟨wr.heap.size, 0, none⟩) 1 1 [(-1000000 * (i : Int) - ((from' : Int) + (k : Int)) - 7)] rfl HRD.out (by omega) (by omega) (by simp; omega) ?_; intro g3 c3 w3 hown3 hgr3 _ _)
      have HO3 : Hid (w3.ownsRow w.heap.size 3 1 (.slice (some ⟨g3, 0, none⟩) (k + 1) c3) (k + 1) (rowOf ncells (lst (k + 1) (fun k => mk i (from' + k))))) := Lib.hid (by
        rw [lst_add k 1, rowOf_append]
        have e : lst 1 (fun k' => mk i (from' + (k + k'))) = [(-1000000 * (i : Int) - ((from' : Int) + (k : Int)) - 7)] := by rw [← HX.out]; rfl
        rw [e]
        exact hown3)
      have HB3 := Lib.hid ((HB.out.alloc hbs (.cells #[.int .i64 (-1000000 * (i : Int) - ((from' : Int) + (k : Int)) - 7)] 3)).grown hgr3 (by simp; omega) (fun j hj => (HO.out.lt j hj).1))
      clear hown3 hgr3
      go_wp2
      go_roundw
      case rel => exact ⟨k + 1, by omega, by first | (simp; done) | (simp; omega) | (congr 1; omega), HO3, HB3⟩
      case measure => simp [intOf]; omega
    · have hkn : k = n := by omega
      subst hkn
      have hltI : ¬ (from' : Int) + (k : Int) < (from' : Int) + (k : Int) := by omega
      go_wp2
      go_ret
      exact ⟨_, rfl, HO.out, HB.out⟩

set_option maxHeartbeats 1000000 in
set_option maxRecDepth 100000 in
theorem copy_ints (p : Option Addr) (n c : Nat) (zs : List Int) (w : World) (h : RdI w w.heap.size p n zs) (hp0 : p = none → c = 0) (hn : n ≤ 100000) :
    Calls Tryz.prog 50 #[.slice p n c] w fun e w' => ∃ v, e = .returned v ∧ w'.ownsRow w.heap.size 3 1 v n (rowOf ncells zs) ∧ Below w.heap.size w w' := by
  have H := Lib.hid h
  have HP := Lib.hid hp0
  clear h hp0
  go_enter Tryz.func50, Tryz.ntmps50
  go_wp2_with (at_builtin; refine append_rd rfl _ _ rfl w.heap.size (.slice none 0 0) 0 [] rfl (World.ownsRow_nil _ _ _ _) p n c zs rfl H.out HP.out (by omega) (Nat.le_refl _) ?_; intro v3 w3 hown3 hgr3)
  rw [Nat.zero_add, List.nil_append] at hown3
  have HO := Lib.hid hown3
  have HB := Lib.hid ((Below.refl w.heap.size w).grown hgr3 (Nat.le_refl _) (fun j hj => by cases hj))
  clear hown3 hgr3
  go_wp2
  go_ret
  exact ⟨_, rfl, HO.out, HB.out⟩

/-- A list with room behind it, in which a mark stands. -/
def Lent (w : World) (base : Nat) (v : Value) (zs : List Int) : Prop := ∃ g cap, v = .slice (some ⟨g, 0, none⟩) zs.length cap ∧ w.ownsRow base 3 1 (.slice (some ⟨g, 0, none⟩) (zs.length + 1) cap) (zs.length + 1) (rowOf ncells (zs ++ [-77]))

theorem Lent.rd {w : World} {base : Nat} {p : Option Addr} {n c : Nat} {zs : List Int} (h : Lent w base (.slice p n c) zs) : RdI w w.heap.size p n zs := by
  obtain ⟨g, cap, e, ho⟩ := h
  injection e with e1 e2 e3
  subst e1 e2 e3
  have hr := RdI.of_own ho (by simp)
  obtain ⟨b, o, e, hb, hc⟩ := hr.2 (by omega)
  refine ⟨rfl, fun hn => ⟨b, o, e, hb, fun j hj => ?_⟩⟩
  have h1 := hc j (by omega)
  have h2 : HL.el (zs ++ [-77]) j = HL.el zs j := by
    unfold HL.el
    rw [List.getD_eq_getElem?_getD, List.getElem?_append_left hj, List.getD_eq_getElem?_getD]
  rw [h2] at h1
  exact h1

theorem owns_caps {w : World} {base g n cap : Nat} {e : TypeId} {size : Nat} {xs : List Value} (h : w.ownsRow base e size (.slice (some ⟨g, 0, none⟩) n cap) n xs) : n ≤ cap ∧ cap ≤ 9223372036854775807 := by
  rcases h.2 with ⟨h, _⟩ | ⟨_, _, _, h, _, _, hc, hm, _⟩
  · cases h
  · injection h with _ _ h
    subst h
    unfold maxLen at hm
    exact ⟨hc, hm⟩

set_option maxHeartbeats 2000000 in
set_option maxRecDepth 100000 in
theorem lent_ints (p : Option Addr) (n c : Nat) (zs : List Int) (w : World) (h : RdI w w.heap.size p n zs) (hp0 : p = none → c = 0) (hn : n ≤ 1000) :
    Calls Tryz.prog 6 #[.slice p n c] w fun e w' => ∃ q d, e = .returned (.slice q n d) ∧ Lent w' w.heap.size (.slice q n d) zs ∧ Below w.heap.size w w' := by
  have H := Lib.hid h
  have HP := Lib.hid hp0
  clear h hp0
  go_enter Tryz.func6, Tryz.ntmps6
  go_wp2_with (first
    | (at_builtin; refine append_rd rfl _ _ rfl w.heap.size (.slice none 0 0) 0 [] rfl (World.ownsRow_nil _ _ _ _) p n c zs rfl H.out HP.out (by omega) (Nat.le_refl _) ?_; intro v3 w3 hown3 hgr3
       rw [Nat.zero_add, List.nil_append] at hown3
       obtain ⟨p3, c3, rfl⟩ := owns_form hown3
       have HO := Lib.hid hown3
       have HB := Lib.hid ((Below.refl w.heap.size w).grown hgr3 (Nat.le_refl _) (fun j hj => by cases hj))
       have hbs := HB.out.size
       have HRD := Lib.hid (rd_new w3 [-77] 3)
       clear hown3 hgr3)
    | (at_builtin; refine append_heads rfl _ _ rfl w.heap.size (.slice p3 n c3) n (rowOf ncells zs) rfl (HO.out.alloc _) (some ⟨w3.heap.size, 0, none⟩) 1 1 [-77] rfl HRD.out (by omega) (by omega) (by simp; omega) ?_; intro g4 c4 w4 hown4 hgr4 _ _
       rw [← rowOf_append] at hown4
       have hz := H.out.1
       have HL4 : Hid (Lent w4 w.heap.size (.slice (some ⟨g4, 0, none⟩) n c4) zs) := Lib.hid ⟨g4, c4, by rw [hz], by rw [hz]; exact hown4⟩
       have HB4 := Lib.hid ((HB.out.alloc hbs (.cells #[.int .i64 (-77)] 3)).grown hgr4 (by simp; omega) (fun j hj => (HO.out.lt j hj).1))
       obtain ⟨hcap, hc4⟩ := owns_caps hown4
       clear hown4 hgr4 hz))
  go_wp2
  go_ret
  exact ⟨_, _, rfl, HL4.out, HB4.out⟩

set_option maxHeartbeats 2000000 in
set_option maxRecDepth 100000 in
theorem stays_ints (base : Nat) (p q : Option Addr) (n c k d : Nat) (zs : List Int) (w : World) (h : Lent w base (.slice p n c) zs) (h2 : RdI w w.heap.size q k zs) (hn : n ≤ 1000) :
    Calls Tryz.prog 9 #[.slice p n c, .slice q k d] w fun e w' => e = .returned (.bool true) ∧ Below w.heap.size w w' := by
  have hrd := h.rd
  have hzn := hrd.1
  have hzk := h2.1
  have HS := Lib.hid (same_ints p q n c k d zs zs w _ _ hrd h2 (by omega) (by omega))
  obtain ⟨g, cap, e, ho⟩ := h
  injection e with e1 e2 e3
  subst e1 e3
  rw [← e2] at ho
  have hcell : w.cell? ⟨g, n, none⟩ = some (.int .i64 (-77)) := by
    have hr := RdI.of_own ho (by rw [List.length_append, hzn]; rfl)
    obtain ⟨b, o, e, hb, hc⟩ := hr.2 (by omega)
    injection e with e
    injection e with e1 e2 _
    subst e1 e2
    have h1 := hc n (by omega)
    have h3 : HL.el (zs ++ [-77]) n = -77 := by
      unfold HL.el
      rw [List.getD_eq_getElem?_getD, List.getElem?_append_right (by omega), hzn, Nat.sub_self]
      rfl
    rw [h3, Nat.zero_add] at h1
    exact h1
  obtain ⟨hcap, hc4⟩ := owns_caps ho
  clear ho h2 hrd hzn hzk e2
  go_enter Tryz.func9, Tryz.ntmps9
  go_wp2_with fail
  refine HS.out.mono ?_
  rintro e w2 ⟨b, m, rfl, hb, rfl⟩
  obtain rfl : b = true := hb.2 rfl
  clear hb HS
  go_wp2
  go_ret
  exact ⟨rfl, (Fr.refl (fun _ => False) w).drewN m |>.below (Nat.le_refl _) (fun _ h => h.elim)⟩
end Go.Proofs.YtedcpckocedcoaaGreat
