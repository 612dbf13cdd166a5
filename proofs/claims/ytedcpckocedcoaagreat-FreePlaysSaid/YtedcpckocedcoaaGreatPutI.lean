/- arboretumref1.Put: a number into rising ones (up to 10000; the rest walked once by TAIL). -/
import Derived.Test.YtedcpckocedcoaaGreatB1
import Derived.Laws.AppendOwnNone
import Derived.Maps.AppendAt
import Derived.Deep.RegionLaw
import Derived.BigRegion
import Derived.Deep.AppendLies
namespace Go.Proofs.YtedcpckocedcoaaGreat
open Go.RowKit

set_option maxRecDepth 100000 in
/-- append(row, xs...) at a step of a region that draws its order: xs any slice of ints that reads. -/
theorem step_append_rd {ops : Array Oper} {o : Oper} {a : Act} {K : Act → World → Prop} {Q : Exit → Act → World → Prop} {E : Prop} {w : World} (hgd : o.guard = none) (s x : Operand)
    (ho : o.op = .call { callee := .builtin .append, args := #[s, x], argTypes := #[22, 22] }) (base : Nat) (v : Value) (n : Nat) (xs : List Value) (hs : a.eval s = v) (hown : w.ownsRow base 3 1 v n xs)
    (p : Option Addr) (m c B : Nat) (zs : List Int) (hx : a.eval x = .slice p m c) (hR : RdI w B p m zs) (hp0 : p = none → c = 0) (hsm : n + m ≤ 1000000) (hbase : base ≤ w.heap.size)
    (h : ∀ v' w', w'.ownsRow base 3 1 v' (n + m) (xs ++ rowOf ncells zs) → w.grownBy w' v.ownBlock → K (a.put o.dst v') w') : if Region.wanted o (yielded ops a.tmps) = true then Oper.wp Tryz.prog o a w K Q else E := by
  obtain ⟨i0, hi0, hz0, hz1, hz2⟩ := info_parts info_int
  have hw : Region.wanted o (yielded ops a.tmps) = true := by simp [Region.wanted, hgd]
  rw [if_pos hw]
  have hz := hR.1
  have hlen : (rowOf ncells zs).length = m * 1 := by rw [rowOf_length ncells ncells_length, hz]
  cases p with
  | none =>
    have h0 : m = 0 := by
      rcases Nat.eq_zero_or_pos m with h0 | h0
      · exact h0
      · obtain ⟨b, o, e, _⟩ := hR.2 h0; cases e
    have hc := hp0 rfl
    subst h0 hc
    have : zs = [] := List.eq_nil_of_length_eq_zero hz
    subst this
    have hrun := run_append_owned_none (P := Tryz.prog) (w := w) base 22 o.type 3 i0 1 Tryz.underlying22 hi0 v n xs hown
    unfold Oper.wp execOp
    simp only [ho, resolve, invoke, builtin, Sem.run_bind, Sem.run_pure, Result.andThen_ok, List.map_toArray, List.map_cons, List.map_nil, hs, hx, hrun]
    exact h v w (by simpa [rowOf] using hown) ⟨rfl, rfl, rfl, Nat.le_refl _, fun _ _ _ => rfl⟩
  | some ad =>
    obtain ⟨v', w', hr, h2, h3, _, _⟩ := run_append_own_at (P := Tryz.prog) w base 22 o.type 3 i0 _ 1 8 Tryz.underlying22 hi0 hz0 hz1 hz2 rfl (by omega) v n xs hown ad m c (rowOf ncells zs) hlen (by
      intro j u hu
      obtain ⟨hj, rfl⟩ := rowOf_ncells_get hu
      obtain ⟨b, o, e, hlt, hc⟩ := hR.2 (by omega)
      injection e with e
      subst e
      rw [add_at, ← hc j (by omega)]) rowOf_ncells_one (by unfold maxLen; omega) (by omega) hbase
    unfold Oper.wp execOp
    simp only [ho, resolve, invoke, builtin, Sem.run_bind, Sem.run_pure, Result.andThen_ok, List.map_toArray, List.map_cons, List.map_nil, hs, hx, hr]
    exact h v' w' h2 h3

theorem RdI.takes {w : World} {B n k : Nat} {p : Option Addr} {zs : List Int} (h : RdI w B p n zs) (hk : k ≤ n) : RdI w B p k (zs.take k) := by
  refine ⟨by rw [List.length_take, h.1]; omega, fun hk0 => ?_⟩
  obtain ⟨b, o, e, hb, hc⟩ := h.2 (by omega)
  refine ⟨b, o, e, hb, fun j hj => ?_⟩
  have : HL.el (zs.take k) j = HL.el zs j := by
    unfold HL.el
    rw [List.getD_eq_getElem?_getD, List.getD_eq_getElem?_getD, List.getElem?_take_of_lt hj]
  rw [this]
  exact hc j (by omega)
theorem RdI.drops {w : World} {B n k b o : Nat} {zs : List Int} (h : RdI w B (some ⟨b, o, none⟩) n zs) (hk : k ≤ n) : RdI w B (some ⟨b, o + k, none⟩) (n - k) (zs.drop k) := by
  refine ⟨by rw [List.length_drop, h.1], fun hk0 => ?_⟩
  obtain ⟨b', o', e, hb, hc⟩ := h.2 (by omega)
  injection e with e
  injection e with e1 e2 _
  subst e1 e2
  refine ⟨b, o + k, rfl, hb, fun j hj => ?_⟩
  have : HL.el (zs.drop k) j = HL.el zs (k + j) := by
    unfold HL.el
    rw [List.getD_eq_getElem?_getD, List.getD_eq_getElem?_getD, List.getElem?_drop]
  rw [this, Nat.add_assoc]
  exact hc (k + j) (by omega)

theorem rp_one {B k : Nat} {w W w3 : World} {v3 : Value} {us : List Int} (hb : Below B w W) (ho : w3.ownsRow B 3 1 v3 (0 + k) ([] ++ rowOf ncells us)) (hg : W.grownBy w3 (Value.slice none 0 0).ownBlock) (hB : B = w.heap.size := by rfl) : w3.ownsRow B 3 1 v3 k (rowOf ncells us) ∧ Below B w w3 := by
  rw [Nat.zero_add, List.nil_append] at ho
  exact ⟨ho, hb.grown hg (by rw [hB]; exact hb.size) (fun k hk => by cases hk)⟩
theorem rp_new (w : World) (x : Int) : (w.drew.alloc (.cells #[.int .i64 x] 3)).cell? ⟨w.heap.size, 0, none⟩ = some (.int .i64 x) := by
  have e := new_cells w.drew [.int .i64 x] 3 0 _ rfl
  rw [add_at] at e
  exact e
theorem rp_far {W w3 : World} {b : Nat} {u : Value} (hg : W.grownBy w3 (Value.slice none 0 0).ownBlock) (hlt : b < W.heap.size) (h : W.cell? ⟨b, 0, none⟩ = some u) : w3.cell? ⟨b, 0, none⟩ = some u :=
  (World.cell?_of_block (a := ⟨b, 0, none⟩) (hg.block b hlt (fun e => by cases e))).trans h
theorem rp_at {W : World} {b : Nat} {x : Int} (h : W.cell? ⟨b, 0, none⟩ = some (.int .i64 x)) : RdI W W.heap.size (some ⟨b, 0, none⟩) 1 [x] :=
  ⟨rfl, fun _ => ⟨b, 0, rfl, cell_lt h, fun k hk => by
    obtain rfl : k = 0 := by omega
    exact h⟩⟩
theorem rp_two {B n m : Nat} {w w3 w4 : World} {v3 v4 : Value} {us : List Value} {vs : List Value} (ho : w3.ownsRow B 3 1 v3 n us) (hb : Below B w w3) (ho4 : w4.ownsRow B 3 1 v4 (n + m) (us ++ vs)) (hg : w3.grownBy w4 v3.ownBlock ∨ ∃ X, (w3.alloc X).grownBy w4 v3.ownBlock) (hB : B = w.heap.size := by rfl) : w4.ownsRow B 3 1 v4 (n + m) (us ++ vs) ∧ Below B w w4 := by
  refine ⟨ho4, ?_⟩
  have hs := hb.size
  rcases hg with hg | ⟨X, hg⟩
  · exact hb.grown hg (by omega) (fun k hk => (ho.lt k hk).1)
  · exact (hb.alloc (by omega) X).grown hg (by simp; omega) (fun k hk => (ho.lt k hk).1)

set_option maxHeartbeats 40000000 in
set_option maxRecDepth 100000 in
theorem ref_put (b o n c : Nat) (zs : List Int) (x : Int) (w : World) (h : RdI w w.heap.size (some ⟨b, o, none⟩) n zs) (hn : n ≤ 10000) (hc : n ≤ c) (hcm : c ≤ maxLen) :
    Calls Tryz.prog 17 #[.slice (some ⟨b, o, none⟩) n c, .int .i64 x] w fun e w' => ∃ u, e = .returned u ∧ w'.ownsRow w.heap.size 3 1 u (n + 1) (rowOf ncells (CL.ins zs x)) ∧ Below w.heap.size w w' := by
  have H := Lib.hid h
  have HN := Lib.hid hn
  have hcm' : c ≤ 9223372036854775807 := by unfold maxLen at hcm; omega
  clear h hcm
  go_enter Tryz.func17, Tryz.ntmps17
  go_wp2
  rename_i Q' K hK
  have TAIL : Hid (∀ (k : Nat) (u2 u3 u6 u7 u8 u9 u10 u11 u12 u13 u14 u15 u16 u17 u18 u19 u20 u21 u22 u23 u24 u25 u26 u27 u28 u29 u30 : Value) (W : World), W = w → k ≤ n → CL.ins zs x = zs.take k ++ [x] ++ zs.drop k → K ⟨#[.slice (some ⟨b, o, none⟩) n c, .int .i64 x, u2, u3, .slice none 0 0, .int .i64 k, u6, u7, u8, u9, u10, u11, u12, u13, u14, u15, u16, u17, u18, u19, u20, u21, u22, u23, u24, u25, u26, u27, u28, u29, u30], []⟩ W) := by
    refine Lib.hid ?_
    intro k u2 u3 u6 u7 u8 u9 u10 u11 u12 u13 u14 u15 u16 u17 u18 u19 u20 u21 u22 u23 u24 u25 u26 u27 u28 u29 u30 W hW hk hins
    subst hW
    refine hK _ _ ?_
    clear hK
    have HINS := Lib.hid hins
    have HT := Lib.hid (H.out.takes hk)
    have HD := Lib.hid (H.out.drops hk)
    have hd0 : Below W.heap.size W W.drew := ((Fr.refl (fun _ => False) W).drew).below (Nat.le_refl _) (fun _ h => h.elim)
    have hd1 : Below W.heap.size W (W.drew.alloc (.cells #[.int .i64 x] 3)) := hd0.alloc (by show W.heap.size ≤ W.heap.size; exact Nat.le_refl _) _
    have HB0 := Lib.hid hd0
    have HB1 := Lib.hid hd1
    clear hd0 hd1 hins
    go_wp2_with fail
    rcases Nat.eq_or_lt_of_le (Nat.le_trans hk hc) with hck | hck
    · obtain rfl : k = n := by omega
      subst hck
      refine Mix.region_mix (n := 11) (m := 5) (fun V => ∃ q : Later W, V = q.1) [0, 1, 2, 4, 7, 8, 9] (by kernel_rfl) rfl rfl (by kernel_rfl) (by kernel_rfl) ⟨⟨W.drew, HB0.out⟩, rfl⟩ ?_
      repeat (refine Mix.picks_step rfl ?_; go_big_quiet_step (fail))
      refine Mix.picks_nil ?_
      intro inv
      refine sink_two (i := 3) (j := 5) (by kernel_rfl) rfl rfl (by omega) (by omega) inv (fun K hK => ?_) (fun K hK => ?_)
      · have HKK := Lib.hid hK
        clear hK
        refine step_append_rd rfl _ _ rfl W.heap.size (.slice none 0 0) 0 [] rfl (World.ownsRow_nil _ _ _ _) _ k _ W.heap.size (zs.take k) rfl (HT.out.below HB0.out) (fun h => by cases h) (by omega) (by simp) ?_
        intro v3 w3 hown3 hgr3
        have H3 := Lib.hid (rp_one (B := W.heap.size) (w := W) HB0.out hown3 hgr3)
        clear hown3 hgr3
        refine HKK.out _ _ ⟨⟨_, H3.out.2⟩, rfl⟩ ?_
        clear HKK inv
        intro hS inv
        (try simp only [Act.put]); (try simp only [List.setIfInBounds_toArray]); (try simp only [List.set_cons_succ]); (try simp only [List.set_cons_zero])
        refine sink_one (i := 5) (by kernel_rfl) rfl (by omega) inv (fun K hK => ?_)
        have HKK := Lib.hid hK
        clear hK
        go_simp
        refine HKK.out _ _ ⟨⟨_, (H3.out.2.alloc H3.out.2.size _)⟩, rfl⟩ ?_
        clear HKK inv
        intro hS inv
        (try simp only [Act.put]); (try simp only [List.setIfInBounds_toArray]); (try simp only [List.set_cons_succ]); (try simp only [List.set_cons_zero])
        refine sink_one (i := 6) (by kernel_rfl) rfl (by omega) inv (fun K hK => ?_)
        have HKK := Lib.hid hK
        clear hK
        refine step_append_rd rfl _ _ rfl W.heap.size v3 k (rowOf ncells (zs.take k)) rfl (H3.out.1.alloc _) _ 1 1 _ [x] rfl (rd_new w3 [x] 3) (fun h => by cases h) (by omega) (by have := H3.out.2.size; first | omega | (simp; omega)) ?_
        intro v4 w4 hown4 hgr4
        have H4 := Lib.hid (rp_two H3.out.1 H3.out.2 hown4 (.inr ⟨_, hgr4⟩))
        clear hown4 hgr4
        refine HKK.out _ _ ⟨⟨_, H4.out.2⟩, rfl⟩ ?_
        clear HKK inv
        intro hS inv
        (try simp only [Act.put]); (try simp only [List.setIfInBounds_toArray]); (try simp only [List.set_cons_succ]); (try simp only [List.set_cons_zero])
        refine sink_one (i := 10) (by kernel_rfl) rfl (by omega) inv (fun K hK => ?_)
        have HKK := Lib.hid hK
        clear hK
        refine step_append_rd rfl _ _ rfl W.heap.size v4 (k + 1) (rowOf ncells (zs.take k) ++ rowOf ncells [x]) rfl H4.out.1 _ 0 _ W.heap.size [] rfl ⟨rfl, fun h => absurd h (by omega)⟩ (fun h => by cases h) (by omega) (H4.out.2.size) ?_
        intro v5 w5 hown5 hgr5
        have H5 := Lib.hid (rp_two (n := k + 1) H4.out.1 H4.out.2 hown5 (.inl hgr5))
        clear hown5 hgr5
        refine HKK.out _ _ ⟨⟨_, H5.out.2⟩, rfl⟩ ?_
        clear HKK inv
        intro hS inv
        (try simp only [Act.put]); (try simp only [List.setIfInBounds_toArray]); (try simp only [List.set_cons_succ]); (try simp only [List.set_cons_zero])
        refine sink_last (by kernel_rfl) rfl (by kernel_rfl) (fun K hK => ?_)
        have HKK := Lib.hid hK
        clear hK
        go_simp
        refine HKK.out _ _ ⟨rfl, ?_⟩
        clear HKK inv hS
        go_wp2
        go_ret
        refine ⟨v5, rfl, ?_, H5.out.2⟩
        rw [HINS.out, List.drop_eq_nil_of_le (by have := H.out.1; omega), List.append_nil]
        have e := H5.out.1
        rw [rowOf_append]
        simpa [rowOf] using e
      · have HKK := Lib.hid hK
        clear hK
        go_simp
        refine HKK.out _ _ ⟨⟨_, HB1.out⟩, rfl⟩ ?_
        clear HKK inv
        intro hS inv
        (try simp only [Act.put]); (try simp only [List.setIfInBounds_toArray]); (try simp only [List.set_cons_succ]); (try simp only [List.set_cons_zero])
        refine sink_one (i := 3) (by kernel_rfl) rfl (by omega) inv (fun K hK => ?_)
        have HKK := Lib.hid hK
        clear hK
        refine step_append_rd rfl _ _ rfl W.heap.size (.slice none 0 0) 0 [] rfl (World.ownsRow_nil _ _ _ _) _ k _ W.heap.size (zs.take k) rfl (HT.out.below HB1.out) (fun h => by cases h) (by omega) (by simp) ?_
        intro v3 w3 hown3 hgr3
        have H3 := Lib.hid (rp_one (B := W.heap.size) (w := W) HB1.out hown3 hgr3)
        have HX3 : Hid (w3.cell? ⟨W.heap.size, 0, none⟩ = some (.int .i64 x)) := Lib.hid (rp_far hgr3 (by simp) (rp_new W x))
        clear hown3 hgr3
        refine HKK.out _ _ ⟨⟨_, H3.out.2⟩, rfl⟩ ?_
        clear HKK inv
        intro hS inv
        (try simp only [Act.put]); (try simp only [List.setIfInBounds_toArray]); (try simp only [List.set_cons_succ]); (try simp only [List.set_cons_zero])
        refine sink_one (i := 6) (by kernel_rfl) rfl (by omega) inv (fun K hK => ?_)
        have HKK := Lib.hid hK
        clear hK
        refine step_append_rd rfl _ _ rfl W.heap.size v3 k (rowOf ncells (zs.take k)) rfl (H3.out.1) _ 1 1 _ [x] rfl (rp_at HX3.out) (fun h => by cases h) (by omega) (by have := H3.out.2.size; first | omega | (simp; omega)) ?_
        intro v4 w4 hown4 hgr4
        have H4 := Lib.hid (rp_two H3.out.1 H3.out.2 hown4 (.inl hgr4))
        clear hown4 hgr4
        refine HKK.out _ _ ⟨⟨_, H4.out.2⟩, rfl⟩ ?_
        clear HKK inv
        intro hS inv
        (try simp only [Act.put]); (try simp only [List.setIfInBounds_toArray]); (try simp only [List.set_cons_succ]); (try simp only [List.set_cons_zero])
        refine sink_one (i := 10) (by kernel_rfl) rfl (by omega) inv (fun K hK => ?_)
        have HKK := Lib.hid hK
        clear hK
        refine step_append_rd rfl _ _ rfl W.heap.size v4 (k + 1) (rowOf ncells (zs.take k) ++ rowOf ncells [x]) rfl H4.out.1 _ 0 _ W.heap.size [] rfl ⟨rfl, fun h => absurd h (by omega)⟩ (fun h => by cases h) (by omega) (H4.out.2.size) ?_
        intro v5 w5 hown5 hgr5
        have H5 := Lib.hid (rp_two (n := k + 1) H4.out.1 H4.out.2 hown5 (.inl hgr5))
        clear hown5 hgr5
        refine HKK.out _ _ ⟨⟨_, H5.out.2⟩, rfl⟩ ?_
        clear HKK inv
        intro hS inv
        (try simp only [Act.put]); (try simp only [List.setIfInBounds_toArray]); (try simp only [List.set_cons_succ]); (try simp only [List.set_cons_zero])
        refine sink_last (by kernel_rfl) rfl (by kernel_rfl) (fun K hK => ?_)
        have HKK := Lib.hid hK
        clear hK
        go_simp
        refine HKK.out _ _ ⟨rfl, ?_⟩
        clear HKK inv hS
        go_wp2
        go_ret
        refine ⟨v5, rfl, ?_, H5.out.2⟩
        rw [HINS.out, List.drop_eq_nil_of_le (by have := H.out.1; omega), List.append_nil]
        have e := H5.out.1
        rw [rowOf_append]
        simpa [rowOf] using e
    · have hkc : k ≤ c := by omega
      have hck2 : ¬ c = k := by omega
      refine Mix.region_mix (n := 11) (m := 5) (fun V => ∃ q : Later W, V = q.1) [0, 1, 2, 4, 7, 8, 9] (by kernel_rfl) rfl rfl (by kernel_rfl) (by kernel_rfl) ⟨⟨W.drew, HB0.out⟩, rfl⟩ ?_
      repeat (refine Mix.picks_step rfl ?_; go_big_quiet_step (fail))
      refine Mix.picks_nil ?_
      intro inv
      refine sink_two (i := 3) (j := 5) (by kernel_rfl) rfl rfl (by omega) (by omega) inv (fun K hK => ?_) (fun K hK => ?_)
      · have HKK := Lib.hid hK
        clear hK
        refine step_append_rd rfl _ _ rfl W.heap.size (.slice none 0 0) 0 [] rfl (World.ownsRow_nil _ _ _ _) _ k _ W.heap.size (zs.take k) rfl (HT.out.below HB0.out) (fun h => by cases h) (by omega) (by simp) ?_
        intro v3 w3 hown3 hgr3
        have H3 := Lib.hid (rp_one (B := W.heap.size) (w := W) HB0.out hown3 hgr3)
        clear hown3 hgr3
        refine HKK.out _ _ ⟨⟨_, H3.out.2⟩, rfl⟩ ?_
        clear HKK inv
        intro hS inv
        (try simp only [Act.put]); (try simp only [List.setIfInBounds_toArray]); (try simp only [List.set_cons_succ]); (try simp only [List.set_cons_zero])
        refine sink_one (i := 5) (by kernel_rfl) rfl (by omega) inv (fun K hK => ?_)
        have HKK := Lib.hid hK
        clear hK
        go_simp
        refine HKK.out _ _ ⟨⟨_, (H3.out.2.alloc H3.out.2.size _)⟩, rfl⟩ ?_
        clear HKK inv
        intro hS inv
        (try simp only [Act.put]); (try simp only [List.setIfInBounds_toArray]); (try simp only [List.set_cons_succ]); (try simp only [List.set_cons_zero])
        refine sink_one (i := 6) (by kernel_rfl) rfl (by omega) inv (fun K hK => ?_)
        have HKK := Lib.hid hK
        clear hK
        refine step_append_rd rfl _ _ rfl W.heap.size v3 k (rowOf ncells (zs.take k)) rfl (H3.out.1.alloc _) _ 1 1 _ [x] rfl (rd_new w3 [x] 3) (fun h => by cases h) (by omega) (by have := H3.out.2.size; first | omega | (simp; omega)) ?_
        intro v4 w4 hown4 hgr4
        have H4 := Lib.hid (rp_two H3.out.1 H3.out.2 hown4 (.inr ⟨_, hgr4⟩))
        clear hown4 hgr4
        refine HKK.out _ _ ⟨⟨_, H4.out.2⟩, rfl⟩ ?_
        clear HKK inv
        intro hS inv
        (try simp only [Act.put]); (try simp only [List.setIfInBounds_toArray]); (try simp only [List.set_cons_succ]); (try simp only [List.set_cons_zero])
        refine sink_one (i := 10) (by kernel_rfl) rfl (by omega) inv (fun K hK => ?_)
        have HKK := Lib.hid hK
        clear hK
        refine step_append_rd rfl _ _ rfl W.heap.size v4 (k + 1) (rowOf ncells (zs.take k) ++ rowOf ncells [x]) rfl H4.out.1 _ (n - k) _ W.heap.size (zs.drop k) rfl (HD.out.below H4.out.2) (fun h => by cases h) (by omega) (H4.out.2.size) ?_
        intro v5 w5 hown5 hgr5
        have H5 := Lib.hid (rp_two (n := k + 1) H4.out.1 H4.out.2 hown5 (.inl hgr5))
        clear hown5 hgr5
        refine HKK.out _ _ ⟨⟨_, H5.out.2⟩, rfl⟩ ?_
        clear HKK inv
        intro hS inv
        (try simp only [Act.put]); (try simp only [List.setIfInBounds_toArray]); (try simp only [List.set_cons_succ]); (try simp only [List.set_cons_zero])
        refine sink_last (by kernel_rfl) rfl (by kernel_rfl) (fun K hK => ?_)
        have HKK := Lib.hid hK
        clear hK
        go_simp
        refine HKK.out _ _ ⟨rfl, ?_⟩
        clear HKK inv hS
        go_wp2
        go_ret
        refine ⟨v5, rfl, ?_, H5.out.2⟩
        rw [HINS.out]
        have e := H5.out.1
        rw [show k + 1 + (n - k) = n + 1 by omega] at e
        rw [rowOf_append, rowOf_append]
        exact e
      · have HKK := Lib.hid hK
        clear hK
        go_simp
        refine HKK.out _ _ ⟨⟨_, HB1.out⟩, rfl⟩ ?_
        clear HKK inv
        intro hS inv
        (try simp only [Act.put]); (try simp only [List.setIfInBounds_toArray]); (try simp only [List.set_cons_succ]); (try simp only [List.set_cons_zero])
        refine sink_one (i := 3) (by kernel_rfl) rfl (by omega) inv (fun K hK => ?_)
        have HKK := Lib.hid hK
        clear hK
        refine step_append_rd rfl _ _ rfl W.heap.size (.slice none 0 0) 0 [] rfl (World.ownsRow_nil _ _ _ _) _ k _ W.heap.size (zs.take k) rfl (HT.out.below HB1.out) (fun h => by cases h) (by omega) (by simp) ?_
        intro v3 w3 hown3 hgr3
        have H3 := Lib.hid (rp_one (B := W.heap.size) (w := W) HB1.out hown3 hgr3)
        have HX3 : Hid (w3.cell? ⟨W.heap.size, 0, none⟩ = some (.int .i64 x)) := Lib.hid (rp_far hgr3 (by simp) (rp_new W x))
        clear hown3 hgr3
        refine HKK.out _ _ ⟨⟨_, H3.out.2⟩, rfl⟩ ?_
        clear HKK inv
        intro hS inv
        (try simp only [Act.put]); (try simp only [List.setIfInBounds_toArray]); (try simp only [List.set_cons_succ]); (try simp only [List.set_cons_zero])
        refine sink_one (i := 6) (by kernel_rfl) rfl (by omega) inv (fun K hK => ?_)
        have HKK := Lib.hid hK
        clear hK
        refine step_append_rd rfl _ _ rfl W.heap.size v3 k (rowOf ncells (zs.take k)) rfl (H3.out.1) _ 1 1 _ [x] rfl (rp_at HX3.out) (fun h => by cases h) (by omega) (by have := H3.out.2.size; first | omega | (simp; omega)) ?_
        intro v4 w4 hown4 hgr4
        have H4 := Lib.hid (rp_two H3.out.1 H3.out.2 hown4 (.inl hgr4))
        clear hown4 hgr4
        refine HKK.out _ _ ⟨⟨_, H4.out.2⟩, rfl⟩ ?_
        clear HKK inv
        intro hS inv
        (try simp only [Act.put]); (try simp only [List.setIfInBounds_toArray]); (try simp only [List.set_cons_succ]); (try simp only [List.set_cons_zero])
        refine sink_one (i := 10) (by kernel_rfl) rfl (by omega) inv (fun K hK => ?_)
        have HKK := Lib.hid hK
        clear hK
        refine step_append_rd rfl _ _ rfl W.heap.size v4 (k + 1) (rowOf ncells (zs.take k) ++ rowOf ncells [x]) rfl H4.out.1 _ (n - k) _ W.heap.size (zs.drop k) rfl (HD.out.below H4.out.2) (fun h => by cases h) (by omega) (H4.out.2.size) ?_
        intro v5 w5 hown5 hgr5
        have H5 := Lib.hid (rp_two (n := k + 1) H4.out.1 H4.out.2 hown5 (.inl hgr5))
        clear hown5 hgr5
        refine HKK.out _ _ ⟨⟨_, H5.out.2⟩, rfl⟩ ?_
        clear HKK inv
        intro hS inv
        (try simp only [Act.put]); (try simp only [List.setIfInBounds_toArray]); (try simp only [List.set_cons_succ]); (try simp only [List.set_cons_zero])
        refine sink_last (by kernel_rfl) rfl (by kernel_rfl) (fun K hK => ?_)
        have HKK := Lib.hid hK
        clear hK
        go_simp
        refine HKK.out _ _ ⟨rfl, ?_⟩
        clear HKK inv hS
        go_wp2
        go_ret
        refine ⟨v5, rfl, ?_, H5.out.2⟩
        rw [HINS.out]
        have e := H5.out.1
        rw [show k + 1 + (n - k) = n + 1 by omega] at e
        rw [rowOf_append, rowOf_append]
        exact e
  clear hK
  go_loopw [5] (fun iv wr => ∃ k : Nat, k ≤ n ∧ iv = .int .i64 k ∧ wr = w ∧ Hid (∀ i, i < k → HL.el zs i ≤ x)) (fun iv _ => n - (intOf iv).toNat)
  case atStart => exact ⟨0, Nat.zero_le _, rfl, rfl, Lib.hid (fun i hi => by omega)⟩
  case round =>
    obtain ⟨k, hk, rfl, rfl, HLE⟩ := hrel
    have HIN : Hid ((k < n → ¬ HL.el zs k ≤ x) → CL.ins zs x = zs.take k ++ [x] ++ zs.drop k) := Lib.hid (fun h9 => by
      have hl := H.out.1
      rw [CL.ins_eq, CL.insAt_of (l := zs) (k := k) (by omega) HLE.out (fun h => h9 (by omega))]
      simp)
    by_cases hlt : k < n
    · obtain ⟨b', o', e, hb, hc'⟩ := H.out.2 (by omega)
      injection e with e
      injection e with e1 e2 _
      subst e1 e2
      have hcell := hc' k hlt
      have HLE2 : Hid (HL.el zs k ≤ x → ∀ i, i < k + 1 → HL.el zs i ≤ x) := Lib.hid (fun hle i hi => by
        by_cases e : i = k
        · subst e; exact hle
        · exact HLE.out i (by omega))
      clear hc' HLE
      generalize HL.el zs k = y at *
      by_cases hle : y ≤ x
      · have HLE3 := Lib.hid (HLE2.out hle)
        clear HLE2 HIN
        go_wp2
        go_roundw
        case rel => exact ⟨k + 1, by omega, by go_num, trivial, HLE3⟩
        case measure => simp [intOf]; omega
      · have HI := Lib.hid (HIN.out (fun _ => hle))
        clear HLE2 HIN
        go_wp2
        exact TAIL.out k _ _ _ _ _ _ _ _ _ _ _ _ _ _ _ _ _ _ _ _ _ _ _ _ _ _ _ wr rfl (by omega) HI.out
    · obtain rfl : k = n := by omega
      have HI := Lib.hid (HIN.out (fun h => absurd h (by omega)))
      clear HLE HIN
      go_wp2
      exact TAIL.out k _ _ _ _ _ _ _ _ _ _ _ _ _ _ _ _ _ _ _ _ _ _ _ _ _ _ _ wr rfl (by omega) HI.out

set_option maxHeartbeats 8000000 in
set_option maxRecDepth 100000 in
theorem ref_put_nil (x : Int) (w : World) :
    Calls Tryz.prog 17 #[.slice none 0 0, .int .i64 x] w fun e w' => ∃ u, e = .returned u ∧ w'.ownsRow w.heap.size 3 1 u (0 + 1) (rowOf ncells (CL.ins [] x)) ∧ Below w.heap.size w w' := by
  go_enter Tryz.func17, Tryz.ntmps17
  go_wp2
  go_loopw [5] (fun iv wr => iv = .int .i64 0 ∧ wr = w) (fun iv _ => 0)
  case atStart => exact ⟨rfl, rfl⟩
  case round =>
    obtain ⟨rfl, rfl⟩ := hrel
    have hd0 : Below wr.heap.size wr wr.drew := ((Fr.refl (fun _ => False) wr).drew).below (Nat.le_refl _) (fun _ h => h.elim)
    have hd1 : Below wr.heap.size wr (wr.drew.alloc (.cells #[.int .i64 x] 3)) := hd0.alloc (by show wr.heap.size ≤ wr.heap.size; exact Nat.le_refl _) _
    have HB0 := Lib.hid hd0
    have HB1 := Lib.hid hd1
    clear hd0 hd1
    go_wp2_with fail
    go_region_law (first
      | (refine step_append_rd rfl _ _ rfl wr.heap.size (.slice none 0 0) 0 [] rfl (World.ownsRow_nil _ _ _ _) none 0 0 wr.heap.size [] rfl ⟨rfl, fun h => absurd h (by omega)⟩ (fun _ => rfl) (by omega) (by simp) ?_; intro v3 w3 hown3 hgr3; have H3 := Lib.hid (rp_one (B := wr.heap.size) (w := wr) (by first | exact HB0.out | exact HB1.out) hown3 hgr3); (first | (have HX3 : Hid (w3.cell? ⟨wr.heap.size, 0, none⟩ = some (.int .i64 x)) := Lib.hid (rp_far hgr3 (by simp) (rp_new wr x))) | skip); clear hown3 hgr3)
      | (refine step_append_rd rfl _ _ rfl wr.heap.size v3 0 (rowOf ncells []) rfl (by first | exact H3.out.1 | exact H3.out.1.alloc _) _ 1 1 _ [x] rfl (by first | exact rd_new w3 [x] 3 | exact rp_at HX3.out) (fun h => by cases h) (by omega) (by have := H3.out.2.size; first | omega | (simp; omega)) ?_; intro v4 w4 hown4 hgr4; have H4 := Lib.hid (rp_two H3.out.1 H3.out.2 hown4 (by first | exact .inl hgr4 | exact .inr ⟨_, hgr4⟩)); clear hown4 hgr4)
      | (refine step_append_rd rfl _ _ rfl wr.heap.size v4 (0 + 1) (rowOf ncells [] ++ rowOf ncells [x]) rfl H4.out.1 none 0 0 wr.heap.size [] rfl ⟨rfl, fun h => absurd h (by omega)⟩ (fun _ => rfl) (by omega) (H4.out.2.size) ?_; intro v5 w5 hown5 hgr5; have H5 := Lib.hid (rp_two (n := 0 + 1) H4.out.1 H4.out.2 hown5 (.inl hgr5)); clear hown5 hgr5))
    all_goals
      go_wp2
      go_ret
      refine ⟨v5, rfl, ?_, H5.out.2⟩
      simpa [rowOf, CL.ins] using H5.out.1

/-- Put into a row that is the call's own. -/
theorem ref_put_own {base n : Nat} {v : Value} {zs : List Int} (x : Int) {w : World} (ho : w.ownsRow base 3 1 v n (rowOf ncells zs)) (hz : zs.length = n) (hn : n ≤ 10000) (hnil : n = 0 → v = .slice none 0 0) :
    Calls Tryz.prog 17 #[v, .int .i64 x] w fun e w' => ∃ u, e = .returned u ∧ w'.ownsRow w.heap.size 3 1 u (n + 1) (rowOf ncells (CL.ins zs x)) ∧ Below w.heap.size w w' := by
  rcases Nat.eq_zero_or_pos n with h0 | h0
  · have e := hnil h0
    subst h0 e
    obtain rfl := List.eq_nil_of_length_eq_zero hz
    exact ref_put_nil x w
  · rcases ho.2 with ⟨_, h⟩ | ⟨g, cap, cur, rfl, hb, hg, hc, hm, _⟩
    · omega
    · exact ref_put g 0 n cap zs x w (RdI.of_own ho hz) hn hc hm

end Go.Proofs.YtedcpckocedcoaaGreat
