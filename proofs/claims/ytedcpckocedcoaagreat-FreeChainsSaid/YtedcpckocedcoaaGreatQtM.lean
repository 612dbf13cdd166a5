/- The Book of texts: marks, copies; lists with room behind them. (Turned from the Book of ints by gen-texts.py.) -/
import Derived.Test.YtedcpckocedcoaaGreatQtL
import Derived.Test.YtedcpckocedcoaaGreatQtS
import Derived.Test.YtedcpckocedcoaaGreatQtN
import Derived.Test.YtedcpckocedcoaaGreatBkM
namespace Go.Proofs.YtedcpckocedcoaaGreat
open Go.RowKit

/-- The mark behind a list that was lent. -/
def markB : ByteArray := ⟨#[109, 97, 114, 107]⟩

/-- The mark of place k in list i. -/
def mkT (i : Nat) (k : Nat) : ByteArray := nameT i k

set_option maxHeartbeats 2000000 in
set_option maxRecDepth 100000 in
theorem mark_texts (i from' n : Nat) (w : World) (hi : i ≤ 1000) (hf : from' ≤ 100000) (hn : n ≤ 100000) :
    Calls Tryz.prog 125 #[.int .i64 i, .int .i64 from', .int .i64 n] w fun e w' => ∃ v, e = .returned v ∧ w'.ownsRow w.heap.size 9 1 v n (rowOf bcells (lstT n (fun k => mkT i (from' + k)))) ∧ Below w.heap.size w w' := by
  go_enter Tryz.func125, Tryz.ntmps125
  go_wp2
  go_loopw [7, 8] (fun ov iv wr => ∃ k : Nat, k ≤ n ∧ iv = .int .i64 ((from' : Int) + (k : Int)) ∧ Hid (wr.ownsRow w.heap.size 9 1 ov k (rowOf bcells (lstT k (fun k => mkT i (from' + k))))) ∧ Hid (Below w.heap.size w wr)) (fun _ iv _ => from' + n - (intOf iv).toNat)
  case atStart => exact ⟨0, Nat.zero_le _, by simp, Lib.hid (World.ownsRow_nil _ _ _ _), Lib.hid (Below.refl _ _)⟩
  case round =>
    obtain ⟨k, hk, rfl, HO, HB⟩ := hrel
    by_cases hlt : k < n
    · have hltI : (from' : Int) + (k : Int) < (from' : Int) + (n : Int) := by omega
      have HNM := Lib.hid (bk_name i (from' + k) wr hi (by omega))
      rw [show ((from' + k : Nat) : Int) = (from' : Int) + (k : Int) by omega] at HNM
      have hbs := HB.out.size
      obtain ⟨tp, tc, hv⟩ := owns_form HO.out
      subst hv
      obtain ⟨nm, hnm⟩ : ∃ nm, nameT i (from' + k) = nm := ⟨_, rfl⟩
      rw [hnm] at HNM
      have HX : Hid (mkT i (from' + k) = nm) := Lib.hid hnm
      clear hnm
      go_wp2_with fail
      refine HNM.out.mono ?_
      rintro e wn ⟨rfl, hbn⟩
      have HRD := Lib.hid (rd_newT wn [nm] 9)
      have HON := Lib.hid ((Fr.of_all (S := fun _ => False) hbn).owns HO.out (fun _ _ h => h))
      have HBN := Lib.hid (HB.out.trans (hbn.mono HB.out.size))
      have hbsn := HBN.out.size
      clear hbn HNM
      go_wp2_with (at_builtin; refine append_headsT rfl _ _ rfl w.heap.size (.slice tp k tc) k (rowOf bcells (lstT k (fun k => mkT i (from' + k)))) rfl (HON.out.alloc _) (some ⟨wn.heap.size, 0, none⟩) 1 1 [nm] rfl HRD.out (by omega) (by omega) (by simp; omega) ?_; intro g3 c3 w3 hown3 hgr3 _ _)
      have HO3 : Hid (w3.ownsRow w.heap.size 9 1 (.slice (some ⟨g3, 0, none⟩) (k + 1) c3) (k + 1) (rowOf bcells (lstT (k + 1) (fun k => mkT i (from' + k))))) := Lib.hid (by
        rw [lstT_add k 1, rowOf_append]
        have e : lstT 1 (fun k' => mkT i (from' + (k + k'))) = [nm] := by rw [← HX.out]; rfl
        rw [e]
        exact hown3)
      have HB3 := Lib.hid ((HBN.out.alloc hbsn (.cells #[.string nm] 9)).grown hgr3 (by simp; omega) (fun j hj => (HON.out.lt j hj).1))
      clear hown3 hgr3
      go_wp2
      go_roundw
      case rel => exact ⟨k + 1, by omega, by first | (simp; done) | (simp; omega) | (congr 1; omega), HO3, HB3⟩
      case measure => simp [intOf]; omega
    · have hkn : k = n := by omega
      subst hkn
      have hltI : ¬ (from' : Int) + (k : Int) < (from' : Int) + (k : Int) := by omega
      go_wp2
      go_ret
      exact ⟨_, rfl, HO.out, HB.out⟩

set_option maxHeartbeats 1000000 in
set_option maxRecDepth 100000 in
theorem copy_texts (p : Option Addr) (n c : Nat) (zs : List ByteArray) (w : World) (h : RdT w w.heap.size p n zs) (hp0 : p = none → c = 0) (hn : n ≤ 100000) :
    Calls Tryz.prog 102 #[.slice p n c] w fun e w' => ∃ v, e = .returned v ∧ w'.ownsRow w.heap.size 9 1 v n (rowOf bcells zs) ∧ Below w.heap.size w w' := by
  have H := Lib.hid h
  have HP := Lib.hid hp0
  clear h hp0
  go_enter Tryz.func102, Tryz.ntmps102
  go_wp2_with (at_builtin; refine append_rdT rfl _ _ rfl w.heap.size (.slice none 0 0) 0 [] rfl (World.ownsRow_nil _ _ _ _) p n c zs rfl H.out HP.out (by omega) (Nat.le_refl _) ?_; intro v3 w3 hown3 hgr3)
  rw [Nat.zero_add, List.nil_append] at hown3
  have HO := Lib.hid hown3
  have HB := Lib.hid ((Below.refl w.heap.size w).grown hgr3 (Nat.le_refl _) (fun j hj => by cases hj))
  clear hown3 hgr3
  go_wp2
  go_ret
  exact ⟨_, rfl, HO.out, HB.out⟩

/-- A list with room behind it, in which a mark stands. -/
def LentT (w : World) (base : Nat) (v : Value) (zs : List ByteArray) : Prop := ∃ g cap, v = .slice (some ⟨g, 0, none⟩) zs.length cap ∧ w.ownsRow base 9 1 (.slice (some ⟨g, 0, none⟩) (zs.length + 1) cap) (zs.length + 1) (rowOf bcells (zs ++ [markB]))

theorem LentT.rd {w : World} {base : Nat} {p : Option Addr} {n c : Nat} {zs : List ByteArray} (h : LentT w base (.slice p n c) zs) : RdT w w.heap.size p n zs := by
  obtain ⟨g, cap, e, ho⟩ := h
  injection e with e1 e2 e3
  subst e1 e2 e3
  have hr := RdT.of_own ho (by simp)
  obtain ⟨b, o, e, hb, hc⟩ := hr.2 (by omega)
  refine ⟨rfl, fun hn => ⟨b, o, e, hb, fun j hj => ?_⟩⟩
  have h1 := hc j (by omega)
  have h2 : HL.el (zs ++ [markB]) j = HL.el zs j := by
    unfold HL.el
    rw [List.getD_eq_getElem?_getD, List.getElem?_append_left hj, List.getD_eq_getElem?_getD]
  rw [h2] at h1
  exact h1

set_option maxHeartbeats 2000000 in
set_option maxRecDepth 100000 in
theorem lent_texts (p : Option Addr) (n c : Nat) (zs : List ByteArray) (w : World) (h : RdT w w.heap.size p n zs) (hp0 : p = none → c = 0) (hn : n ≤ 1000) :
    Calls Tryz.prog 31 #[.slice p n c] w fun e w' => ∃ q d, e = .returned (.slice q n d) ∧ LentT w' w.heap.size (.slice q n d) zs ∧ Below w.heap.size w w' := by
  have H := Lib.hid h
  have HP := Lib.hid hp0
  clear h hp0
  go_enter Tryz.func31, Tryz.ntmps31
  go_wp2_with (first
    | (at_builtin; refine append_rdT rfl _ _ rfl w.heap.size (.slice none 0 0) 0 [] rfl (World.ownsRow_nil _ _ _ _) p n c zs rfl H.out HP.out (by omega) (Nat.le_refl _) ?_; intro v3 w3 hown3 hgr3
       rw [Nat.zero_add, List.nil_append] at hown3
       obtain ⟨p3, c3, rfl⟩ := owns_form hown3
       have HO := Lib.hid hown3
       have HB := Lib.hid ((Below.refl w.heap.size w).grown hgr3 (Nat.le_refl _) (fun j hj => by cases hj))
       have hbs := HB.out.size
       have HRD := Lib.hid (rd_newT w3 [markB] 9)
       clear hown3 hgr3)
    | (at_builtin; refine append_headsT rfl _ _ rfl w.heap.size (.slice p3 n c3) n (rowOf bcells zs) rfl (HO.out.alloc _) (some ⟨w3.heap.size, 0, none⟩) 1 1 [markB] rfl HRD.out (by omega) (by omega) (by simp; omega) ?_; intro g4 c4 w4 hown4 hgr4 _ _
       rw [← rowOf_append] at hown4
       have hz := H.out.1
       have HL4 : Hid (LentT w4 w.heap.size (.slice (some ⟨g4, 0, none⟩) n c4) zs) := Lib.hid ⟨g4, c4, by rw [hz], by rw [hz]; exact hown4⟩
       have HB4 := Lib.hid ((HB.out.alloc hbs (.cells #[.string markB] 9)).grown hgr4 (by simp; omega) (fun j hj => (HO.out.lt j hj).1))
       obtain ⟨hcap, hc4⟩ := owns_caps hown4
       clear hown4 hgr4 hz))
  go_wp2
  go_ret
  exact ⟨_, _, rfl, HL4.out, HB4.out⟩

set_option maxHeartbeats 2000000 in
set_option maxRecDepth 100000 in
theorem stays_texts (base : Nat) (p q : Option Addr) (n c k d : Nat) (zs : List ByteArray) (w : World) (h : LentT w base (.slice p n c) zs) (h2 : RdT w w.heap.size q k zs) (hn : n ≤ 1000) :
    Calls Tryz.prog 37 #[.slice p n c, .slice q k d] w fun e w' => e = .returned (.bool true) ∧ Below w.heap.size w w' := by
  have hrd := h.rd
  have hzn := hrd.1
  have hzk := h2.1
  have HS := Lib.hid (same_texts p q n c k d zs zs w _ _ hrd h2 (by omega) (by omega))
  obtain ⟨g, cap, e, ho⟩ := h
  injection e with e1 e2 e3
  subst e1 e3
  rw [← e2] at ho
  have hcell : w.cell? ⟨g, n, none⟩ = some (.string markB) := by
    have hr := RdT.of_own ho (by rw [List.length_append, hzn]; rfl)
    obtain ⟨b, o, e, hb, hc⟩ := hr.2 (by omega)
    injection e with e
    injection e with e1 e2 _
    subst e1 e2
    have h1 := hc n (by omega)
    have h3 : HL.el (zs ++ [markB]) n = markB := by
      unfold HL.el
      rw [List.getD_eq_getElem?_getD, List.getElem?_append_right (by omega), hzn, Nat.sub_self]
      rfl
    rw [h3, Nat.zero_add] at h1
    exact h1
  obtain ⟨hcap, hc4⟩ := owns_caps ho
  clear ho h2 hrd hzn hzk e2
  have hmkb : markB.toList = [109, 97, 114, 107] := by kernel_rfl
  go_enter Tryz.func37, Tryz.ntmps37
  go_wp2_with fail
  refine HS.out.mono ?_
  rintro e w2 ⟨b, m, rfl, hb, rfl⟩
  obtain rfl : b = true := hb.2 rfl
  clear hb HS
  go_wp2
  go_ret
  exact ⟨rfl, (Fr.refl (fun _ => False) w).drewN m |>.below (Nat.le_refl _) (fun _ h => h.elim)⟩
end Go.Proofs.YtedcpckocedcoaaGreat
