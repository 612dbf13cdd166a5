/- Merged texts: Ins PutI YRef VrL Vr Blk. -/
import Derived.Test.YtaodldagmmephaaGreatA2
import Derived.Test.YtaodldagmmephaaGreatA1
import Derived.Test.YtaodldagmmephaaGreatA5
import Derived.Laws.AppendOwnNone
import Derived.Maps.AppendAt
import Derived.Deep.RegionLaw
import Derived.BigRegion
import Derived.Deep.AppendLies
import Derived.Test.YtaodldagmmephaaGreatA3
import Derived.OwnWalk
import Derived.Laws.IdiomStrings
import Derived.Laws.BitsLemmas
import Derived.Lib.AppendStr
import Derived.Deep.DeepCutAuto
/- Numbers put into rising ones: plain facts. No program in sight. -/
namespace Go.Proofs.YtaodldagmmephaaGreat
namespace CL

/-- A number put into rising ones. -/
def ins (l : List Int) (v : Int) : List Int := l.takeWhile (fun x => decide (x ≤ v)) ++ v :: l.dropWhile (fun x => decide (x ≤ v))
def insAt (l : List Int) (v : Int) : Nat := (l.takeWhile (fun x => decide (x ≤ v))).length

theorem take_insAt : ∀ (l : List Int) (v : Int), l.take (insAt l v) = l.takeWhile (fun x => decide (x ≤ v)) ∧ l.drop (insAt l v) = l.dropWhile (fun x => decide (x ≤ v))
  | [], _ => ⟨rfl, rfl⟩
  | x :: l, v => by
    have ih := take_insAt l v
    unfold insAt at ih ⊢
    by_cases h : x ≤ v
    · simp only [List.takeWhile_cons, List.dropWhile_cons, decide_eq_true h, if_true, List.length_cons, List.take_succ_cons, List.drop_succ_cons]
      exact ⟨by rw [ih.1], ih.2⟩
    · simp [decide_eq_false h]

theorem insAt_le (l : List Int) (v : Int) : insAt l v ≤ l.length := List.takeWhile_sublist _ |>.length_le

theorem insAt_of {l : List Int} {v : Int} {k : Nat} (hk : k ≤ l.length) (h : ∀ i, i < k → HL.el l i ≤ v) (hn : k < l.length → ¬ HL.el l k ≤ v) : insAt l v = k := by
  induction l generalizing k with
  | nil => simp at hk; subst hk; rfl
  | cons x l ih =>
    unfold insAt at *
    cases k with
    | zero =>
      have : ¬ x ≤ v := hn (by simp)
      simp [decide_eq_false this]
    | succ k =>
      have h0 : x ≤ v := h 0 (by omega)
      simp only [List.takeWhile_cons, decide_eq_true h0, if_true, List.length_cons]
      rw [ih (k := k) (by simpa using hk) (fun i hi => h (i + 1) (by omega)) (fun hk' => hn (by simpa using hk'))]

theorem ins_eq (l : List Int) (v : Int) : ins l v = l.take (insAt l v) ++ v :: l.drop (insAt l v) := by
  rw [(take_insAt l v).1, (take_insAt l v).2]; rfl

theorem ins_length (l : List Int) (v : Int) : (ins l v).length = l.length + 1 := by
  rw [ins_eq, List.length_append, List.length_cons, List.length_take, List.length_drop]
  have := insAt_le l v
  omega

theorem ins_perm (l : List Int) (v : Int) : (ins l v).Perm (v :: l) := by
  rw [ins_eq]
  refine List.perm_middle.trans ?_
  rw [List.take_append_drop]

theorem ins_mem {l : List Int} {v x : Int} : x ∈ ins l v ↔ x = v ∨ x ∈ l := by
  rw [(ins_perm l v).mem_iff, List.mem_cons]

theorem dropWhile_gt {l : List Int} {v : Int} (h : l.Pairwise (· ≤ ·)) : ∀ x ∈ l.dropWhile (fun x => decide (x ≤ v)), v < x := by
  induction l with
  | nil => simp
  | cons y l ih =>
    have hp := List.pairwise_cons.1 h
    by_cases hy : y ≤ v
    · simp only [List.dropWhile_cons, decide_eq_true hy, if_true]
      exact ih hp.2
    · simp only [List.dropWhile_cons, decide_eq_false hy]
      intro x hx
      rcases List.mem_cons.1 hx with e | e
      · omega
      · have := hp.1 x e; omega

theorem takeWhile_le {l : List Int} {v : Int} : ∀ x ∈ l.takeWhile (fun x => decide (x ≤ v)), x ≤ v := by
  intro x hx
  induction l with
  | nil => simp at hx
  | cons y l ih =>
    by_cases hy : y ≤ v
    · simp only [List.takeWhile_cons, decide_eq_true hy, if_true] at hx
      rcases List.mem_cons.1 hx with e | e
      · omega
      · exact ih e
    · simp [decide_eq_false hy] at hx

theorem ins_sorted {l : List Int} {v : Int} (h : l.Pairwise (· ≤ ·)) : (ins l v).Pairwise (· ≤ ·) := by
  unfold ins
  rw [List.pairwise_append, List.pairwise_cons]
  refine ⟨h.sublist (List.takeWhile_sublist _), ⟨fun x hx => by have := dropWhile_gt h x hx; omega, h.sublist (List.dropWhile_sublist _)⟩, ?_⟩
  intro a ha b hb
  have h1 := takeWhile_le a ha
  rcases List.mem_cons.1 hb with e | e
  · omega
  · have := dropWhile_gt h b e; omega

theorem srt_ins (l : List Int) (v : Int) : srt (l ++ [v]) = ins (srt l) v :=
  srt_unique ((srt_perm _).trans (List.perm_append_comm.trans (((List.Perm.cons v (srt_perm l)).symm).trans (ins_perm _ v).symm))) (srt_sorted _) (ins_sorted (srt_sorted l))

theorem ins_up {l : List Int} {v : Int} (h : Up l) (hv : v ∉ l) : Up (ins l v) := by
  have hs := ins_sorted (v := v) (h.imp (fun h => by omega : ∀ {a b : Int}, a < b → a ≤ b))
  have hn : (ins l v).Nodup := (ins_perm l v).nodup_iff.2 (List.nodup_cons.2 ⟨hv, up_nodup h⟩)
  unfold Up
  exact (hs.and hn).imp (fun ⟨h1, h2⟩ => by omega)
end CL
end Go.Proofs.YtaodldagmmephaaGreat

/- arboretumref1.Put: a number into rising ones (up to 10000; the rest walked once by TAIL). -/
namespace Go.Proofs.YtaodldagmmephaaGreat
open Go.RowKit

set_option maxRecDepth 100000 in
/-- append(row, xs...) at a step of a region that draws its order: xs any slice of ints that reads. -/
theorem step_append_rd {ops : Array Oper} {o : Oper} {a : Act} {K : Act → World → Prop} {Q : Exit → Act → World → Prop} {E : Prop} {w : World} (hgd : o.guard = none) (s x : Operand)
    (ho : o.op = .call { callee := .builtin .append, args := #[s, x], argTypes := #[32, 32] }) (base : Nat) (v : Value) (n : Nat) (xs : List Value) (hs : a.eval s = v) (hown : w.ownsRow base 3 1 v n xs)
    (p : Option Addr) (m c B : Nat) (zs : List Int) (hx : a.eval x = .slice p m c) (hR : RdI w B p m zs) (hp0 : p = none → c = 0) (hsm : n + m ≤ 1000000) (hbase : base ≤ w.heap.size)
    (h : ∀ v' w', w'.ownsRow base 3 1 v' (n + m) (xs ++ rowOf ncells zs) → w.grownBy w' v.ownBlock → K (a.put o.dst v') w') : if Region.wanted o (yielded ops a.tmps) = true then Oper.wp Tryz.prog o a w K Q else E := by
  obtain ⟨i0, hi0, hz0, hz1, hz2⟩ := info_parts info_int
  have hw : Region.wanted o (yielded ops a.tmps) = true := by simp [Region.wanted, hgd]
  rw [if_pos hw]
  have hz := hR.1
  have hlen : (rowOf ncells zs).length = m * 1 := by rw [rowOf_length ncells ncells_length, hz]
  cases p with
  | none =>
    have h0 : m = 0 := by
      rcases Nat.eq_zero_or_pos m with h0 | h0
      · exact h0
      · obtain ⟨b, o, e, _⟩ := hR.2 h0; cases e
    have hc := hp0 rfl
    subst h0 hc
    have : zs = [] := List.eq_nil_of_length_eq_zero hz
    subst this
    have hrun := run_append_owned_none (P := Tryz.prog) (w := w) base 32 o.type 3 i0 1 Tryz.underlying32 hi0 v n xs hown
    unfold Oper.wp execOp
    simp only [ho, resolve, invoke, builtin, Sem.run_bind, Sem.run_pure, Result.andThen_ok, List.map_toArray, List.map_cons, List.map_nil, hs, hx, hrun]
    exact h v w (by simpa [rowOf] using hown) ⟨rfl, rfl, rfl, Nat.le_refl _, fun _ _ _ => rfl⟩
  | some ad =>
    obtain ⟨v', w', hr, h2, h3, _, _⟩ := run_append_own_at (P := Tryz.prog) w base 32 o.type 3 i0 _ 1 8 Tryz.underlying32 hi0 hz0 hz1 hz2 rfl (by omega) v n xs hown ad m c (rowOf ncells zs) hlen (by
      intro j u hu
      obtain ⟨hj, rfl⟩ := rowOf_ncells_get hu
      obtain ⟨b, o, e, hlt, hc⟩ := hR.2 (by omega)
      injection e with e
      subst e
      rw [add_at, ← hc j (by omega)]) rowOf_ncells_one (by unfold maxLen; omega) (by omega) hbase
    unfold Oper.wp execOp
    simp only [ho, resolve, invoke, builtin, Sem.run_bind, Sem.run_pure, Result.andThen_ok, List.map_toArray, List.map_cons, List.map_nil, hs, hx, hr]
    exact h v' w' h2 h3

theorem RdI.takes {w : World} {B n k : Nat} {p : Option Addr} {zs : List Int} (h : RdI w B p n zs) (hk : k ≤ n) : RdI w B p k (zs.take k) := by
  refine ⟨by rw [List.length_take, h.1]; omega, fun hk0 => ?_⟩
  obtain ⟨b, o, e, hb, hc⟩ := h.2 (by omega)
  refine ⟨b, o, e, hb, fun j hj => ?_⟩
  have : HL.el (zs.take k) j = HL.el zs j := by
    unfold HL.el
    rw [List.getD_eq_getElem?_getD, List.getD_eq_getElem?_getD, List.getElem?_take_of_lt hj]
  rw [this]
  exact hc j (by omega)
theorem RdI.drops {w : World} {B n k b o : Nat} {zs : List Int} (h : RdI w B (some ⟨b, o, none⟩) n zs) (hk : k ≤ n) : RdI w B (some ⟨b, o + k, none⟩) (n - k) (zs.drop k) := by
  refine ⟨by rw [List.length_drop, h.1], fun hk0 => ?_⟩
  obtain ⟨b', o', e, hb, hc⟩ := h.2 (by omega)
  injection e with e
  injection e with e1 e2 _
  subst e1 e2
  refine ⟨b, o + k, rfl, hb, fun j hj => ?_⟩
  have : HL.el (zs.drop k) j = HL.el zs (k + j) := by
    unfold HL.el
    rw [List.getD_eq_getElem?_getD, List.getD_eq_getElem?_getD, List.getElem?_drop]
  rw [this, Nat.add_assoc]
  exact hc (k + j) (by omega)

theorem rp_one {B k : Nat} {w W w3 : World} {v3 : Value} {us : List Int} (hb : Below B w W) (ho : w3.ownsRow B 3 1 v3 (0 + k) ([] ++ rowOf ncells us)) (hg : W.grownBy w3 (Value.slice none 0 0).ownBlock) (hB : B = w.heap.size := by rfl) : w3.ownsRow B 3 1 v3 k (rowOf ncells us) ∧ Below B w w3 := by
  rw [Nat.zero_add, List.nil_append] at ho
  exact ⟨ho, hb.grown hg (by rw [hB]; exact hb.size) (fun k hk => by cases hk)⟩
theorem rp_new (w : World) (x : Int) : (w.drew.alloc (.cells #[.int .i64 x] 3)).cell? ⟨w.heap.size, 0, none⟩ = some (.int .i64 x) := by
  have e := new_cells w.drew [.int .i64 x] 3 0 _ rfl
  rw [add_at] at e
  exact e
theorem rp_far {W w3 : World} {b : Nat} {u : Value} (hg : W.grownBy w3 (Value.slice none 0 0).ownBlock) (hlt : b < W.heap.size) (h : W.cell? ⟨b, 0, none⟩ = some u) : w3.cell? ⟨b, 0, none⟩ = some u :=
  (World.cell?_of_block (a := ⟨b, 0, none⟩) (hg.block b hlt (fun e => by cases e))).trans h
theorem rp_at {W : World} {b : Nat} {x : Int} (h : W.cell? ⟨b, 0, none⟩ = some (.int .i64 x)) : RdI W W.heap.size (some ⟨b, 0, none⟩) 1 [x] :=
  ⟨rfl, fun _ => ⟨b, 0, rfl, cell_lt h, fun k hk => by
    obtain rfl : k = 0 := by omega
    exact h⟩⟩
theorem rp_two {B n m : Nat} {w w3 w4 : World} {v3 v4 : Value} {us : List Value} {vs : List Value} (ho : w3.ownsRow B 3 1 v3 n us) (hb : Below B w w3) (ho4 : w4.ownsRow B 3 1 v4 (n + m) (us ++ vs)) (hg : w3.grownBy w4 v3.ownBlock ∨ ∃ X, (w3.alloc X).grownBy w4 v3.ownBlock) (hB : B = w.heap.size := by rfl) : w4.ownsRow B 3 1 v4 (n + m) (us ++ vs) ∧ Below B w w4 := by
  refine ⟨ho4, ?_⟩
  have hs := hb.size
  rcases hg with hg | ⟨X, hg⟩
  · exact hb.grown hg (by omega) (fun k hk => (ho.lt k hk).1)
  · exact (hb.alloc (by omega) X).grown hg (by simp; omega) (fun k hk => (ho.lt k hk).1)

set_option maxHeartbeats 40000000 in
set_option maxRecDepth 100000 in
theorem ref_put (b o n c : Nat) (zs : List Int) (x : Int) (w : World) (h : RdI w w.heap.size (some ⟨b, o, none⟩) n zs) (hn : n ≤ 10000) (hc : n ≤ c) (hcm : c ≤ maxLen) :
    Calls Tryz.prog 108 #[.slice (some ⟨b, o, none⟩) n c, .int .i64 x] w fun e w' => ∃ u, e = .returned u ∧ w'.ownsRow w.heap.size 3 1 u (n + 1) (rowOf ncells (CL.ins zs x)) ∧ Below w.heap.size w w' := by
  have H := Lib.hid h
  have HN := Lib.hid hn
  have hcm' : c ≤ 9223372036854775807 := by unfold maxLen at hcm; omega
  clear h hcm
  go_enter Tryz.func108, Tryz.ntmps108
  go_wp2
  rename_i Q' K hK
  have TAIL : Hid (∀ (k : Nat) (u2 u3 u6 u7 u8 u9 u10 u11 u12 u13 u14 u15 u16 u17 u18 u19 u20 u21 u22 u23 u24 u25 u26 u27 u28 u29 u30 : Value) (W : World), W = w → k ≤ n → CL.ins zs x = zs.take k ++ [x] ++ zs.drop k → K ⟨#[.slice (some ⟨b, o, none⟩) n c, .int .i64 x, u2, u3, .slice none 0 0, .int .i64 k, u6, u7, u8, u9, u10, u11, u12, u13, u14, u15, u16, u17, u18, u19, u20, u21, u22, u23, u24, u25, u26, u27, u28, u29, u30], []⟩ W) := by
    refine Lib.hid ?_
    intro k u2 u3 u6 u7 u8 u9 u10 u11 u12 u13 u14 u15 u16 u17 u18 u19 u20 u21 u22 u23 u24 u25 u26 u27 u28 u29 u30 W hW hk hins
    subst hW
    refine hK _ _ ?_
    clear hK
    have HINS := Lib.hid hins
    have HT := Lib.hid (H.out.takes hk)
    have HD := Lib.hid (H.out.drops hk)
    have hd0 : Below W.heap.size W W.drew := ((Fr.refl (fun _ => False) W).drew).below (Nat.le_refl _) (fun _ h => h.elim)
    have hd1 : Below W.heap.size W (W.drew.alloc (.cells #[.int .i64 x] 3)) := hd0.alloc (by show W.heap.size ≤ W.heap.size; exact Nat.le_refl _) _
    have HB0 := Lib.hid hd0
    have HB1 := Lib.hid hd1
    clear hd0 hd1 hins
    go_wp2_with fail
    rcases Nat.eq_or_lt_of_le (Nat.le_trans hk hc) with hck | hck
    · obtain rfl : k = n := by omega
      subst hck
      refine Mix.region_mix (n := 11) (m := 5) (fun V => ∃ q : Later W, V = q.1) [0, 1, 2, 4, 7, 8, 9] (by kernel_rfl) rfl rfl (by kernel_rfl) (by kernel_rfl) ⟨⟨W.drew, HB0.out⟩, rfl⟩ ?_
      repeat (refine Mix.picks_step rfl ?_; go_big_quiet_step (fail))
      refine Mix.picks_nil ?_
      intro inv
      refine sink_two (i := 3) (j := 5) (by kernel_rfl) rfl rfl (by omega) (by omega) inv (fun K hK => ?_) (fun K hK => ?_)
      · have HKK := Lib.hid hK
        clear hK
        refine step_append_rd rfl _ _ rfl W.heap.size (.slice none 0 0) 0 [] rfl (World.ownsRow_nil _ _ _ _) _ k _ W.heap.size (zs.take k) rfl (HT.out.below HB0.out) (fun h => by cases h) (by omega) (by simp) ?_
        intro v3 w3 hown3 hgr3
        have H3 := Lib.hid (rp_one (B := W.heap.size) (w := W) HB0.out hown3 hgr3)
        clear hown3 hgr3
        refine HKK.out _ _ ⟨⟨_, H3.out.2⟩, rfl⟩ ?_
        clear HKK inv
        intro hS inv
        (try simp only [Act.put]); (try simp only [List.setIfInBounds_toArray]); (try simp only [List.set_cons_succ]); (try simp only [List.set_cons_zero])
        refine sink_one (i := 5) (by kernel_rfl) rfl (by omega) inv (fun K hK => ?_)
        have HKK := Lib.hid hK
        clear hK
        go_simp
        refine HKK.out _ _ ⟨⟨_, (H3.out.2.alloc H3.out.2.size _)⟩, rfl⟩ ?_
        clear HKK inv
        intro hS inv
        (try simp only [Act.put]); (try simp only [List.setIfInBounds_toArray]); (try simp only [List.set_cons_succ]); (try simp only [List.set_cons_zero])
        refine sink_one (i := 6) (by kernel_rfl) rfl (by omega) inv (fun K hK => ?_)
        have HKK := Lib.hid hK
        clear hK
        refine step_append_rd rfl _ _ rfl W.heap.size v3 k (rowOf ncells (zs.take k)) rfl (H3.out.1.alloc _) _ 1 1 _ [x] rfl (rd_new w3 [x] 3) (fun h => by cases h) (by omega) (by have := H3.out.2.size; first | omega | (simp; omega)) ?_
        intro v4 w4 hown4 hgr4
        have H4 := Lib.hid (rp_two H3.out.1 H3.out.2 hown4 (.inr ⟨_, hgr4⟩))
        clear hown4 hgr4
        refine HKK.out _ _ ⟨⟨_, H4.out.2⟩, rfl⟩ ?_
        clear HKK inv
        intro hS inv
        (try simp only [Act.put]); (try simp only [List.setIfInBounds_toArray]); (try simp only [List.set_cons_succ]); (try simp only [List.set_cons_zero])
        refine sink_one (i := 10) (by kernel_rfl) rfl (by omega) inv (fun K hK => ?_)
        have HKK := Lib.hid hK
        clear hK
        refine step_append_rd rfl _ _ rfl W.heap.size v4 (k + 1) (rowOf ncells (zs.take k) ++ rowOf ncells [x]) rfl H4.out.1 _ 0 _ W.heap.size [] rfl ⟨rfl, fun h => absurd h (by omega)⟩ (fun h => by cases h) (by omega) (H4.out.2.size) ?_
        intro v5 w5 hown5 hgr5
        have H5 := Lib.hid (rp_two (n := k + 1) H4.out.1 H4.out.2 hown5 (.inl hgr5))
        clear hown5 hgr5
        refine HKK.out _ _ ⟨⟨_, H5.out.2⟩, rfl⟩ ?_
        clear HKK inv
        intro hS inv
        (try simp only [Act.put]); (try simp only [List.setIfInBounds_toArray]); (try simp only [List.set_cons_succ]); (try simp only [List.set_cons_zero])
        refine sink_last (by kernel_rfl) rfl (by kernel_rfl) (fun K hK => ?_)
        have HKK := Lib.hid hK
        clear hK
        go_simp
        refine HKK.out _ _ ⟨rfl, ?_⟩
        clear HKK inv hS
        go_wp2
        go_ret
        refine ⟨v5, rfl, ?_, H5.out.2⟩
        rw [HINS.out, List.drop_eq_nil_of_le (by have := H.out.1; omega), List.append_nil]
        have e := H5.out.1
        rw [rowOf_append]
        simpa [rowOf] using e
      · have HKK := Lib.hid hK
        clear hK
        go_simp
        refine HKK.out _ _ ⟨⟨_, HB1.out⟩, rfl⟩ ?_
        clear HKK inv
        intro hS inv
        (try simp only [Act.put]); (try simp only [List.setIfInBounds_toArray]); (try simp only [List.set_cons_succ]); (try simp only [List.set_cons_zero])
        refine sink_one (i := 3) (by kernel_rfl) rfl (by omega) inv (fun K hK => ?_)
        have HKK := Lib.hid hK
        clear hK
        refine step_append_rd rfl _ _ rfl W.heap.size (.slice none 0 0) 0 [] rfl (World.ownsRow_nil _ _ _ _) _ k _ W.heap.size (zs.take k) rfl (HT.out.below HB1.out) (fun h => by cases h) (by omega) (by simp) ?_
        intro v3 w3 hown3 hgr3
        have H3 := Lib.hid (rp_one (B := W.heap.size) (w := W) HB1.out hown3 hgr3)
        have HX3 : Hid (w3.cell? ⟨W.heap.size, 0, none⟩ = some (.int .i64 x)) := Lib.hid (rp_far hgr3 (by simp) (rp_new W x))
        clear hown3 hgr3
        refine HKK.out _ _ ⟨⟨_, H3.out.2⟩, rfl⟩ ?_
        clear HKK inv
        intro hS inv
        (try simp only [Act.put]); (try simp only [List.setIfInBounds_toArray]); (try simp only [List.set_cons_succ]); (try simp only [List.set_cons_zero])
        refine sink_one (i := 6) (by kernel_rfl) rfl (by omega) inv (fun K hK => ?_)
        have HKK := Lib.hid hK
        clear hK
        refine step_append_rd rfl _ _ rfl W.heap.size v3 k (rowOf ncells (zs.take k)) rfl (H3.out.1) _ 1 1 _ [x] rfl (rp_at HX3.out) (fun h => by cases h) (by omega) (by have := H3.out.2.size; first | omega | (simp; omega)) ?_
        intro v4 w4 hown4 hgr4
        have H4 := Lib.hid (rp_two H3.out.1 H3.out.2 hown4 (.inl hgr4))
        clear hown4 hgr4
        refine HKK.out _ _ ⟨⟨_, H4.out.2⟩, rfl⟩ ?_
        clear HKK inv
        intro hS inv
        (try simp only [Act.put]); (try simp only [List.setIfInBounds_toArray]); (try simp only [List.set_cons_succ]); (try simp only [List.set_cons_zero])
        refine sink_one (i := 10) (by kernel_rfl) rfl (by omega) inv (fun K hK => ?_)
        have HKK := Lib.hid hK
        clear hK
        refine step_append_rd rfl _ _ rfl W.heap.size v4 (k + 1) (rowOf ncells (zs.take k) ++ rowOf ncells [x]) rfl H4.out.1 _ 0 _ W.heap.size [] rfl ⟨rfl, fun h => absurd h (by omega)⟩ (fun h => by cases h) (by omega) (H4.out.2.size) ?_
        intro v5 w5 hown5 hgr5
        have H5 := Lib.hid (rp_two (n := k + 1) H4.out.1 H4.out.2 hown5 (.inl hgr5))
        clear hown5 hgr5
        refine HKK.out _ _ ⟨⟨_, H5.out.2⟩, rfl⟩ ?_
        clear HKK inv
        intro hS inv
        (try simp only [Act.put]); (try simp only [List.setIfInBounds_toArray]); (try simp only [List.set_cons_succ]); (try simp only [List.set_cons_zero])
        refine sink_last (by kernel_rfl) rfl (by kernel_rfl) (fun K hK => ?_)
        have HKK := Lib.hid hK
        clear hK
        go_simp
        refine HKK.out _ _ ⟨rfl, ?_⟩
        clear HKK inv hS
        go_wp2
        go_ret
        refine ⟨v5, rfl, ?_, H5.out.2⟩
        rw [HINS.out, List.drop_eq_nil_of_le (by have := H.out.1; omega), List.append_nil]
        have e := H5.out.1
        rw [rowOf_append]
        simpa [rowOf] using e
    · have hkc : k ≤ c := by omega
      have hck2 : ¬ c = k := by omega
      refine Mix.region_mix (n := 11) (m := 5) (fun V => ∃ q : Later W, V = q.1) [0, 1, 2, 4, 7, 8, 9] (by kernel_rfl) rfl rfl (by kernel_rfl) (by kernel_rfl) ⟨⟨W.drew, HB0.out⟩, rfl⟩ ?_
      repeat (refine Mix.picks_step rfl ?_; go_big_quiet_step (fail))
      refine Mix.picks_nil ?_
      intro inv
      refine sink_two (i := 3) (j := 5) (by kernel_rfl) rfl rfl (by omega) (by omega) inv (fun K hK => ?_) (fun K hK => ?_)
      · have HKK := Lib.hid hK
        clear hK
        refine step_append_rd rfl _ _ rfl W.heap.size (.slice none 0 0) 0 [] rfl (World.ownsRow_nil _ _ _ _) _ k _ W.heap.size (zs.take k) rfl (HT.out.below HB0.out) (fun h => by cases h) (by omega) (by simp) ?_
        intro v3 w3 hown3 hgr3
        have H3 := Lib.hid (rp_one (B := W.heap.size) (w := W) HB0.out hown3 hgr3)
        clear hown3 hgr3
        refine HKK.out _ _ ⟨⟨_, H3.out.2⟩, rfl⟩ ?_
        clear HKK inv
        intro hS inv
        (try simp only [Act.put]); (try simp only [List.setIfInBounds_toArray]); (try simp only [List.set_cons_succ]); (try simp only [List.set_cons_zero])
        refine sink_one (i := 5) (by kernel_rfl) rfl (by omega) inv (fun K hK => ?_)
        have HKK := Lib.hid hK
        clear hK
        go_simp
        refine HKK.out _ _ ⟨⟨_, (H3.out.2.alloc H3.out.2.size _)⟩, rfl⟩ ?_
        clear HKK inv
        intro hS inv
        (try simp only [Act.put]); (try simp only [List.setIfInBounds_toArray]); (try simp only [List.set_cons_succ]); (try simp only [List.set_cons_zero])
        refine sink_one (i := 6) (by kernel_rfl) rfl (by omega) inv (fun K hK => ?_)
        have HKK := Lib.hid hK
        clear hK
        refine step_append_rd rfl _ _ rfl W.heap.size v3 k (rowOf ncells (zs.take k)) rfl (H3.out.1.alloc _) _ 1 1 _ [x] rfl (rd_new w3 [x] 3) (fun h => by cases h) (by omega) (by have := H3.out.2.size; first | omega | (simp; omega)) ?_
        intro v4 w4 hown4 hgr4
        have H4 := Lib.hid (rp_two H3.out.1 H3.out.2 hown4 (.inr ⟨_, hgr4⟩))
        clear hown4 hgr4
        refine HKK.out _ _ ⟨⟨_, H4.out.2⟩, rfl⟩ ?_
        clear HKK inv
        intro hS inv
        (try simp only [Act.put]); (try simp only [List.setIfInBounds_toArray]); (try simp only [List.set_cons_succ]); (try simp only [List.set_cons_zero])
        refine sink_one (i := 10) (by kernel_rfl) rfl (by omega) inv (fun K hK => ?_)
        have HKK := Lib.hid hK
        clear hK
        refine step_append_rd rfl _ _ rfl W.heap.size v4 (k + 1) (rowOf ncells (zs.take k) ++ rowOf ncells [x]) rfl H4.out.1 _ (n - k) _ W.heap.size (zs.drop k) rfl (HD.out.below H4.out.2) (fun h => by cases h) (by omega) (H4.out.2.size) ?_
        intro v5 w5 hown5 hgr5
        have H5 := Lib.hid (rp_two (n := k + 1) H4.out.1 H4.out.2 hown5 (.inl hgr5))
        clear hown5 hgr5
        refine HKK.out _ _ ⟨⟨_, H5.out.2⟩, rfl⟩ ?_
        clear HKK inv
        intro hS inv
        (try simp only [Act.put]); (try simp only [List.setIfInBounds_toArray]); (try simp only [List.set_cons_succ]); (try simp only [List.set_cons_zero])
        refine sink_last (by kernel_rfl) rfl (by kernel_rfl) (fun K hK => ?_)
        have HKK := Lib.hid hK
        clear hK
        go_simp
        refine HKK.out _ _ ⟨rfl, ?_⟩
        clear HKK inv hS
        go_wp2
        go_ret
        refine ⟨v5, rfl, ?_, H5.out.2⟩
        rw [HINS.out]
        have e := H5.out.1
        rw [show k + 1 + (n - k) = n + 1 by omega] at e
        rw [rowOf_append, rowOf_append]
        exact e
      · have HKK := Lib.hid hK
        clear hK
        go_simp
        refine HKK.out _ _ ⟨⟨_, HB1.out⟩, rfl⟩ ?_
        clear HKK inv
        intro hS inv
        (try simp only [Act.put]); (try simp only [List.setIfInBounds_toArray]); (try simp only [List.set_cons_succ]); (try simp only [List.set_cons_zero])
        refine sink_one (i := 3) (by kernel_rfl) rfl (by omega) inv (fun K hK => ?_)
        have HKK := Lib.hid hK
        clear hK
        refine step_append_rd rfl _ _ rfl W.heap.size (.slice none 0 0) 0 [] rfl (World.ownsRow_nil _ _ _ _) _ k _ W.heap.size (zs.take k) rfl (HT.out.below HB1.out) (fun h => by cases h) (by omega) (by simp) ?_
        intro v3 w3 hown3 hgr3
        have H3 := Lib.hid (rp_one (B := W.heap.size) (w := W) HB1.out hown3 hgr3)
        have HX3 : Hid (w3.cell? ⟨W.heap.size, 0, none⟩ = some (.int .i64 x)) := Lib.hid (rp_far hgr3 (by simp) (rp_new W x))
        clear hown3 hgr3
        refine HKK.out _ _ ⟨⟨_, H3.out.2⟩, rfl⟩ ?_
        clear HKK inv
        intro hS inv
        (try simp only [Act.put]); (try simp only [List.setIfInBounds_toArray]); (try simp only [List.set_cons_succ]); (try simp only [List.set_cons_zero])
        refine sink_one (i := 6) (by kernel_rfl) rfl (by omega) inv (fun K hK => ?_)
        have HKK := Lib.hid hK
        clear hK
        refine step_append_rd rfl _ _ rfl W.heap.size v3 k (rowOf ncells (zs.take k)) rfl (H3.out.1) _ 1 1 _ [x] rfl (rp_at HX3.out) (fun h => by cases h) (by omega) (by have := H3.out.2.size; first | omega | (simp; omega)) ?_
        intro v4 w4 hown4 hgr4
        have H4 := Lib.hid (rp_two H3.out.1 H3.out.2 hown4 (.inl hgr4))
        clear hown4 hgr4
        refine HKK.out _ _ ⟨⟨_, H4.out.2⟩, rfl⟩ ?_
        clear HKK inv
        intro hS inv
        (try simp only [Act.put]); (try simp only [List.setIfInBounds_toArray]); (try simp only [List.set_cons_succ]); (try simp only [List.set_cons_zero])
        refine sink_one (i := 10) (by kernel_rfl) rfl (by omega) inv (fun K hK => ?_)
        have HKK := Lib.hid hK
        clear hK
        refine step_append_rd rfl _ _ rfl W.heap.size v4 (k + 1) (rowOf ncells (zs.take k) ++ rowOf ncells [x]) rfl H4.out.1 _ (n - k) _ W.heap.size (zs.drop k) rfl (HD.out.below H4.out.2) (fun h => by cases h) (by omega) (H4.out.2.size) ?_
        intro v5 w5 hown5 hgr5
        have H5 := Lib.hid (rp_two (n := k + 1) H4.out.1 H4.out.2 hown5 (.inl hgr5))
        clear hown5 hgr5
        refine HKK.out _ _ ⟨⟨_, H5.out.2⟩, rfl⟩ ?_
        clear HKK inv
        intro hS inv
        (try simp only [Act.put]); (try simp only [List.setIfInBounds_toArray]); (try simp only [List.set_cons_succ]); (try simp only [List.set_cons_zero])
        refine sink_last (by kernel_rfl) rfl (by kernel_rfl) (fun K hK => ?_)
        have HKK := Lib.hid hK
        clear hK
        go_simp
        refine HKK.out _ _ ⟨rfl, ?_⟩
        clear HKK inv hS
        go_wp2
        go_ret
        refine ⟨v5, rfl, ?_, H5.out.2⟩
        rw [HINS.out]
        have e := H5.out.1
        rw [show k + 1 + (n - k) = n + 1 by omega] at e
        rw [rowOf_append, rowOf_append]
        exact e
  clear hK
  go_loopw [5] (fun iv wr => ∃ k : Nat, k ≤ n ∧ iv = .int .i64 k ∧ wr = w ∧ Hid (∀ i, i < k → HL.el zs i ≤ x)) (fun iv _ => n - (intOf iv).toNat)
  case atStart => exact ⟨0, Nat.zero_le _, rfl, rfl, Lib.hid (fun i hi => by omega)⟩
  case round =>
    obtain ⟨k, hk, rfl, rfl, HLE⟩ := hrel
    have HIN : Hid ((k < n → ¬ HL.el zs k ≤ x) → CL.ins zs x = zs.take k ++ [x] ++ zs.drop k) := Lib.hid (fun h9 => by
      have hl := H.out.1
      rw [CL.ins_eq, CL.insAt_of (l := zs) (k := k) (by omega) HLE.out (fun h => h9 (by omega))]
      simp)
    by_cases hlt : k < n
    · obtain ⟨b', o', e, hb, hc'⟩ := H.out.2 (by omega)
      injection e with e
      injection e with e1 e2 _
      subst e1 e2
      have hcell := hc' k hlt
      have HLE2 : Hid (HL.el zs k ≤ x → ∀ i, i < k + 1 → HL.el zs i ≤ x) := Lib.hid (fun hle i hi => by
        by_cases e : i = k
        · subst e; exact hle
        · exact HLE.out i (by omega))
      clear hc' HLE
      generalize HL.el zs k = y at *
      by_cases hle : y ≤ x
      · have HLE3 := Lib.hid (HLE2.out hle)
        clear HLE2 HIN
        go_wp2
        go_roundw
        case rel => exact ⟨k + 1, by omega, by go_num, trivial, HLE3⟩
        case measure => simp [intOf]; omega
      · have HI := Lib.hid (HIN.out (fun _ => hle))
        clear HLE2 HIN
        go_wp2
        exact TAIL.out k _ _ _ _ _ _ _ _ _ _ _ _ _ _ _ _ _ _ _ _ _ _ _ _ _ _ _ wr rfl (by omega) HI.out
    · obtain rfl : k = n := by omega
      have HI := Lib.hid (HIN.out (fun h => absurd h (by omega)))
      clear HLE HIN
      go_wp2
      exact TAIL.out k _ _ _ _ _ _ _ _ _ _ _ _ _ _ _ _ _ _ _ _ _ _ _ _ _ _ _ wr rfl (by omega) HI.out

set_option maxHeartbeats 8000000 in
set_option maxRecDepth 100000 in
theorem ref_put_nil (x : Int) (w : World) :
    Calls Tryz.prog 108 #[.slice none 0 0, .int .i64 x] w fun e w' => ∃ u, e = .returned u ∧ w'.ownsRow w.heap.size 3 1 u (0 + 1) (rowOf ncells (CL.ins [] x)) ∧ Below w.heap.size w w' := by
  go_enter Tryz.func108, Tryz.ntmps108
  go_wp2
  go_loopw [5] (fun iv wr => iv = .int .i64 0 ∧ wr = w) (fun iv _ => 0)
  case atStart => exact ⟨rfl, rfl⟩
  case round =>
    obtain ⟨rfl, rfl⟩ := hrel
    have hd0 : Below wr.heap.size wr wr.drew := ((Fr.refl (fun _ => False) wr).drew).below (Nat.le_refl _) (fun _ h => h.elim)
    have hd1 : Below wr.heap.size wr (wr.drew.alloc (.cells #[.int .i64 x] 3)) := hd0.alloc (by show wr.heap.size ≤ wr.heap.size; exact Nat.le_refl _) _
    have HB0 := Lib.hid hd0
    have HB1 := Lib.hid hd1
    clear hd0 hd1
    go_wp2_with fail
    go_region_law (first
      | (refine step_append_rd rfl _ _ rfl wr.heap.size (.slice none 0 0) 0 [] rfl (World.ownsRow_nil _ _ _ _) none 0 0 wr.heap.size [] rfl ⟨rfl, fun h => absurd h (by omega)⟩ (fun _ => rfl) (by omega) (by simp) ?_; intro v3 w3 hown3 hgr3; have H3 := Lib.hid (rp_one (B := wr.heap.size) (w := wr) (by first | exact HB0.out | exact HB1.out) hown3 hgr3); (first | (have HX3 : Hid (w3.cell? ⟨wr.heap.size, 0, none⟩ = some (.int .i64 x)) := Lib.hid (rp_far hgr3 (by simp) (rp_new wr x))) | skip); clear hown3 hgr3)
      | (refine step_append_rd rfl _ _ rfl wr.heap.size v3 0 (rowOf ncells []) rfl (by first | exact H3.out.1 | exact H3.out.1.alloc _) _ 1 1 _ [x] rfl (by first | exact rd_new w3 [x] 3 | exact rp_at HX3.out) (fun h => by cases h) (by omega) (by have := H3.out.2.size; first | omega | (simp; omega)) ?_; intro v4 w4 hown4 hgr4; have H4 := Lib.hid (rp_two H3.out.1 H3.out.2 hown4 (by first | exact .inl hgr4 | exact .inr ⟨_, hgr4⟩)); clear hown4 hgr4)
      | (refine step_append_rd rfl _ _ rfl wr.heap.size v4 (0 + 1) (rowOf ncells [] ++ rowOf ncells [x]) rfl H4.out.1 none 0 0 wr.heap.size [] rfl ⟨rfl, fun h => absurd h (by omega)⟩ (fun _ => rfl) (by omega) (H4.out.2.size) ?_; intro v5 w5 hown5 hgr5; have H5 := Lib.hid (rp_two (n := 0 + 1) H4.out.1 H4.out.2 hown5 (.inl hgr5)); clear hown5 hgr5))
    all_goals
      go_wp2
      go_ret
      refine ⟨v5, rfl, ?_, H5.out.2⟩
      simpa [rowOf, CL.ins] using H5.out.1

/-- Put into a row that is the call's own. -/
theorem ref_put_own {base n : Nat} {v : Value} {zs : List Int} (x : Int) {w : World} (ho : w.ownsRow base 3 1 v n (rowOf ncells zs)) (hz : zs.length = n) (hn : n ≤ 10000) (hnil : n = 0 → v = .slice none 0 0) :
    Calls Tryz.prog 108 #[v, .int .i64 x] w fun e w' => ∃ u, e = .returned u ∧ w'.ownsRow w.heap.size 3 1 u (n + 1) (rowOf ncells (CL.ins zs x)) ∧ Below w.heap.size w w' := by
  rcases Nat.eq_zero_or_pos n with h0 | h0
  · have e := hnil h0
    subst h0 e
    obtain rfl := List.eq_nil_of_length_eq_zero hz
    exact ref_put_nil x w
  · rcases ho.2 with ⟨_, h⟩ | ⟨g, cap, cur, rfl, hb, hg, hc, hm, _⟩
    · omega
    · exact ref_put g 0 n cap zs x w (RdI.of_own ho hz) hn hc hm

end Go.Proofs.YtaodldagmmephaaGreat

/- arboretumref16's reckoning with members, where no Change and no Won is. (Printed by gen-yref.py.) -/
namespace Go.Proofs.YtaodldagmmephaaGreat
namespace CL
theorem nrm_succ {zs : List Int} {k : Nat} (hk : k < zs.length) : nrm (zs.take (k + 1)) = if HL.el zs k ∈ nrm (zs.take k) then nrm (zs.take k) else ins (nrm (zs.take k)) (HL.el zs k) := by
  have hm : ∀ x, x ∈ zs.take (k + 1) ↔ x ∈ zs.take k ∨ x = HL.el zs k := fun x => by rw [take_succ_el hk]; simp
  by_cases h : HL.el zs k ∈ nrm (zs.take k)
  · rw [if_pos h]
    exact nrm_ext (fun x => by
      rw [hm]
      constructor
      · rintro (h1 | rfl)
        · exact h1
        · exact nrm_mem.1 h
      · exact .inl)
  · rw [if_neg h]
    exact up_ext (nrm_up _) (ins_up (nrm_up _) h) (fun x => by
      rw [nrm_mem, hm, ins_mem, nrm_mem]
      constructor
      · rintro (h1 | rfl)
        · exact .inr h1
        · exact .inl rfl
      · rintro (rfl | h1)
        · exact .inr rfl
        · exact .inl h1)
/-- Near, the other way to count. -/
theorem odd_two (zs us : List Int) : odd zs us (nrm (zs ++ us)) = ((nrm zs).filter (fun x => !decide (x ∈ nrm us))).length + ((nrm us).filter (fun x => !decide (x ∈ nrm zs))).length := by
  unfold odd
  have hl : ∀ (a : List Int) (b : List Int), Up a → Up b → (∀ x, x ∈ a ↔ x ∈ b) → a.length = b.length := fun a b ha hb h => by rw [up_ext ha hb h]
  have hx : (nrm ((nrm zs).filter (fun x => !decide (x ∈ nrm us)) ++ (nrm us).filter (fun x => !decide (x ∈ nrm zs)))).length = ((nrm zs).filter (fun x => !decide (x ∈ nrm us)) ++ (nrm us).filter (fun x => !decide (x ∈ nrm zs))).length := by
    have hnd : ((nrm zs).filter (fun x => !decide (x ∈ nrm us)) ++ (nrm us).filter (fun x => !decide (x ∈ nrm zs))).Nodup := by
      rw [List.nodup_append]
      refine ⟨(up_nodup (nrm_up zs)).filter _, (up_nodup (nrm_up us)).filter _, ?_⟩
      intro a ha b hb e
      subst e
      have h1 := (List.mem_filter.1 ha)
      have h2 := (List.mem_filter.1 hb)
      simp at h1 h2
      exact h1.2 h2.1
    generalize ((nrm zs).filter (fun x => !decide (x ∈ nrm us)) ++ (nrm us).filter (fun x => !decide (x ∈ nrm zs))) = l at *
    have h1 : (nrm l).Perm l := (List.perm_ext_iff_of_nodup (up_nodup (nrm_up l)) hnd).2 (fun x => nrm_mem)
    exact h1.length_eq
  rw [← List.length_append, ← hx]
  refine hl _ _ ((nrm_up _).sublist List.filter_sublist) (nrm_up _) (fun x => ?_)
  rw [nrm_mem, List.mem_append, List.mem_filter, List.mem_filter, List.mem_filter]
  simp only [nrm_mem, List.mem_append]
  by_cases h1 : x ∈ zs <;> by_cases h2 : x ∈ us <;> simp [h1, h2]
end CL
open Go.RowKit
theorem owns_nil0 {w : World} {base n c : Nat} {e : TypeId} {size : Nat} {q : Option Addr} {xs : List Value} (h : w.ownsRow base e size (.slice q n c) n xs) : q = none → c = 0 := by
  rintro rfl
  rcases h.2 with ⟨e, _⟩ | ⟨g', c', cur, e, _⟩
  · injection e
  · injection e with e1 _ _; cases e1
theorem owns_more {w : World} {base base' n : Nat} {e : TypeId} {size : Nat} {v : Value} {xs : List Value} (h : w.ownsRow base e size v n xs) (hb : base' ≤ base) : w.ownsRow base' e size v n xs := by
  refine ⟨h.1, ?_⟩
  rcases h.2 with e | ⟨g, c, cur, e, hbase, rest⟩
  · exact .inl e
  · exact .inr ⟨g, c, cur, e, by omega, rest⟩
theorem below_drewN1 {B : Nat} {w w' : World} (h : Below B w w') (n : Nat) : Below B w (w'.drewN n) := ⟨h.os, h.tape, h.output, h.size, h.block⟩
set_option maxHeartbeats 1000000 in
set_option maxRecDepth 100000 in
theorem ref_has (p : Option Addr) (n c B : Nat) (l : List Int) (x : Int) (w : World) (h : RdI w B p n l) (hn : n ≤ 1000000) :
    Calls Tryz.prog 23 #[.slice p n c, .int .i64 x] w fun e w' => e = .returned (.bool (decide (x ∈ l))) ∧ w = w' := by
  have H := Lib.hid h
  clear h
  go_enter Tryz.func23, Tryz.ntmps23
  go_wp2
  go_loopw [5] (fun iv wr => ∃ k : Nat, k ≤ n ∧ iv = .int .i64 k ∧ wr = w ∧ Hid (∀ i, i < k → HL.el l i ≠ x)) (fun iv _ => n - (intOf iv).toNat)
  case atStart => exact ⟨0, Nat.zero_le _, rfl, rfl, Lib.hid (fun i hi => by omega)⟩
  case round =>
    obtain ⟨k, hk, rfl, rfl, HK⟩ := hrel
    by_cases hlt : k < n
    · obtain ⟨b, o, e, _, hc⟩ := H.out.2 (by omega)
      subst e
      have hcell := hc k hlt
      clear hc
      by_cases hx : HL.el l k = x
      · have HIN : Hid (decide (x ∈ l) = true) := Lib.hid (by rw [← hx]; exact decide_eq_true (el_mem (by have := H.out.1; omega)))
        rw [hx] at hcell
        have hq : (x == x) = true := by simp
        clear HK hx
        go_wp2
        go_ret
        exact ⟨by rw [HIN.out]; rfl, rfl⟩
      · have HK2 : Hid (∀ i, i < k + 1 → HL.el l i ≠ x) := Lib.hid (fun i hi => by
          by_cases e : i = k
          · subst e; exact hx
          · exact HK.out i (by omega))
        have hq : (HL.el l k == x) = false := by rw [beq_eq_false_iff_ne]; exact hx
        clear HK hx
        generalize HL.el l k = y at *
        go_wp2
        go_roundw
        case rel => exact ⟨k + 1, by omega, by go_num, trivial, HK2⟩
        case measure => simp [intOf]; omega
    · have HOUT : Hid (decide (x ∈ l) = false) := Lib.hid (by
        rw [decide_eq_false_iff_not]
        intro hm
        obtain ⟨i, hi, he⟩ := List.getElem_of_mem hm
        have h1 := HL.el_eq l i hi
        rw [List.getElem?_eq_getElem hi] at h1
        injection h1 with h1
        exact HK.out i (by have := H.out.1; omega) (h1.symm.trans he))
      clear HK
      go_wp2
      go_ret
      exact ⟨by rw [HOUT.out]; rfl, rfl⟩
/-- A row of the call's own that is nil where it holds nothing. -/
def OwnR (w : World) (base : Nat) (v : Value) (l : List Int) : Prop := w.ownsRow base 3 1 v l.length (rowOf ncells l) ∧ (l.length = 0 → v = .slice none 0 0)
theorem OwnR.nil (w : World) (base : Nat) : OwnR w base (.slice none 0 0) [] := ⟨World.ownsRow_nil _ _ _ _, fun _ => rfl⟩
theorem OwnR.put {w : World} {base : Nat} {v : Value} {l : List Int} (h : OwnR w base v l) (x : Int) (hn : l.length ≤ 1000) (hb : base ≤ w.heap.size) :
    Calls Tryz.prog 108 #[v, .int .i64 x] w fun e w' => ∃ u, e = .returned u ∧ OwnR w' base u (CL.ins l x) ∧ Below w.heap.size w w' := by
  refine (ref_put_own x h.1 rfl (by omega) h.2).mono ?_
  rintro e w' ⟨u, rfl, ho, hb'⟩
  refine ⟨u, rfl, ⟨?_, fun h0 => ?_⟩, hb'⟩
  · rw [CL.ins_length]
    exact owns_more ho hb
  · rw [CL.ins_length] at h0; omega
theorem OwnR.rd {w : World} {base : Nat} {p : Option Addr} {n c : Nat} {l : List Int} (h : OwnR w base (.slice p n c) l) : RdI w w.heap.size p n l ∧ l.length = n := by
  obtain ⟨q, d, e⟩ := owns_slice h.1
  injection e with e1 e2 e3
  subst e1 e2 e3
  exact ⟨RdI.of_own h.1 rfl, rfl⟩
set_option maxHeartbeats 2000000 in
set_option maxRecDepth 100000 in
theorem ref_norm (p : Option Addr) (n c : Nat) (zs : List Int) (w : World) (h : RdI w w.heap.size p n zs) (hn : n ≤ 1000) :
    Calls Tryz.prog 69 #[.slice p n c] w fun e w' => ∃ v, e = .returned v ∧ OwnR w' w.heap.size v (CL.nrm zs) ∧ Below w.heap.size w w' := by
  have H := Lib.hid h
  clear h
  go_enter Tryz.func69, Tryz.ntmps69
  go_wp2
  go_loopw [3, 4] (fun ov iv wr => ∃ k : Nat, k ≤ n ∧ iv = .int .i64 k ∧ ∃ l, Hid (l = CL.nrm (zs.take k)) ∧ Hid (OwnR wr w.heap.size ov l) ∧ Hid (Below w.heap.size w wr)) (fun _ iv _ => n - (intOf iv).toNat)
  case atStart => exact ⟨0, Nat.zero_le _, rfl, [], Lib.hid (by rw [List.take_zero]; exact (List.eq_nil_of_length_eq_zero (Nat.le_zero.1 (CL.nrm_length []))).symm), Lib.hid (OwnR.nil _ _), Lib.hid (Below.refl _ _)⟩
  case round =>
    obtain ⟨k, hk, rfl, l, HLL, HO, HB⟩ := hrel
    by_cases hlt : k < n
    · obtain ⟨b, o, e, _, hc⟩ := (H.out.below HB.out).2 (by omega)
      subst e
      have hcell := hc k hlt
      clear hc
      have HLN : Hid (l.length ≤ 1000) := Lib.hid (by
        have := CL.nrm_length (zs.take k)
        rw [HLL.out]
        rw [List.length_take] at this
        omega)
      have HS : Hid (CL.nrm (zs.take (k + 1)) = if HL.el zs k ∈ l then l else CL.ins l (HL.el zs k)) := Lib.hid (by rw [HLL.out]; exact CL.nrm_succ (by have := H.out.1; omega))
      generalize HL.el zs k = y at *
      obtain ⟨tp, tc, hv⟩ := owns_slice HO.out.1
      subst hv
      have HHAS := Lib.hid (ref_has tp l.length tc _ l y wr HO.out.rd.1 (by have := HLN.out; omega))
      by_cases hm : y ∈ l
      · have hd : decide (y ∈ l) = true := decide_eq_true hm
        rw [hd] at HHAS
        have HS2 : Hid (l = CL.nrm (zs.take (k + 1))) := Lib.hid (by rw [HS.out, if_pos hm])
        clear hm hd HS
        go_wp2_with fail
        refine HHAS.out.mono ?_
        rintro e w2 ⟨rfl, rfl⟩
        go_wp2
        go_roundw
        case rel => exact ⟨k + 1, by omega, by go_num, l, HS2, HO, HB⟩
        case measure => simp [intOf]; omega
      · have hd : decide (y ∈ l) = false := decide_eq_false hm
        rw [hd] at HHAS
        have HS2 : Hid (CL.ins l y = CL.nrm (zs.take (k + 1))) := Lib.hid (by rw [HS.out, if_neg hm])
        have HP := Lib.hid (HO.out.put y HLN.out HB.out.size)
        clear hm hd HS
        go_wp2_with fail
        refine HHAS.out.mono ?_
        rintro e w2 ⟨rfl, rfl⟩
        go_wp2_with fail
        refine HP.out.mono ?_
        rintro e w3 ⟨u, rfl, ho3, hb3⟩
        have HO3 := Lib.hid ho3
        have HB3 : Hid (Below w.heap.size w w3) := HB.out.trans (hb3.mono HB.out.size)
        clear ho3 hb3
        go_wp2
        go_roundw
        case rel => exact ⟨k + 1, by omega, by go_num, _, HS2, HO3, HB3⟩
        case measure => simp [intOf]; omega
    · have HE : Hid (l = CL.nrm zs) := Lib.hid (by rw [HLL.out, List.take_of_length_le (by have := H.out.1; omega)])
      go_wp2
      go_ret
      exact ⟨_, rfl, by rw [← HE.out]; exact HO.out, HB.out⟩
/-- It tells whether P. -/
def TellP (P : Prop) (w : World) (e : Ending) (w' : World) : Prop := ∃ b, e = .returned (.bool b) ∧ (b = true ↔ P) ∧ Below w.heap.size w w'
/-- The ways a member may stand. -/
theorem rise_cases (k : Nat) (y p : Int) : (y < 1) ∨ (¬ y < 1 ∧ 64 < y) ∨ (¬ y < 1 ∧ ¬ 64 < y ∧ k = 0) ∨ (¬ y < 1 ∧ ¬ 64 < y ∧ 0 < k ∧ y ≤ p) ∨ (¬ y < 1 ∧ ¬ 64 < y ∧ 0 < k ∧ ¬ y ≤ p) := by omega
set_option maxHeartbeats 4000000 in
set_option maxRecDepth 100000 in
theorem ref_rising (p : Option Addr) (n c B : Nat) (zs : List Int) (w : World) (h : RdI w B p n zs) (hB : B ≤ w.heap.size) (hn : n ≤ 1000) :
    Calls Tryz.prog 70 #[.slice p n c] w (TellP (CL.goodTo zs n) w) := by
  have H := Lib.hid (h.more hB)
  clear h
  go_enter Tryz.func70, Tryz.ntmps70
  go_wp2
  go_loopw [3] (fun iv wr => ∃ k : Nat, k ≤ n ∧ iv = .int .i64 k ∧ Hid (CL.goodTo zs k) ∧ Hid (Below w.heap.size w wr)) (fun iv _ => n - (intOf iv).toNat)
  case atStart => exact ⟨0, Nat.zero_le _, rfl, Lib.hid (fun i hi => by omega), Lib.hid (Below.refl _ _)⟩
  case round =>
    obtain ⟨k, hk, rfl, HG, HB⟩ := hrel
    by_cases hlt : k < n
    · have hltI : (k : Int) < (n : Int) := by omega
      obtain ⟨b, o, hp, _, hcs⟩ := (H.out.below HB.out).2 (by omega)
      have hcell := hcs k hlt
      have hcell1 : 0 < k → wr.cell? ⟨b, o + (k - 1), none⟩ = some (.int .i64 (HL.el zs (k - 1))) := fun h => hcs (k - 1) (by omega)
      have hl9 := cell_lt hcell
      clear hcs
      subst hp
      have HRC := Lib.hid (rise_cases k (HL.el zs k) (HL.el zs (k - 1)))
      have HNO : Hid (CL.goodTo zs n → CL.isId (HL.el zs k) = true ∧ (0 < k → HL.el zs (k - 1) < HL.el zs k)) := Lib.hid (fun hg => hg k hlt)
      have HYES : Hid (CL.isId (HL.el zs k) = true → (0 < k → HL.el zs (k - 1) < HL.el zs k) → CL.goodTo zs (k + 1)) := Lib.hid (fun h1 h2 => CL.goodTo_succ HG.out h1 h2)
      have q1 : ∀ q : Later wr, q.1.cell? ⟨b, o + k, none⟩ = some (.int .i64 (HL.el zs k)) := fun q => (q.2.cell (p := ⟨b, o + k, none⟩) hl9).trans hcell
      have q2 : 0 < k → ∀ q : Later wr, q.1.cell? ⟨b, o + (k - 1), none⟩ = some (.int .i64 (HL.el zs (k - 1))) := fun h q => (q.2.cell (p := ⟨b, o + (k - 1), none⟩) hl9).trans (hcell1 h)
      generalize HL.el zs k = y at *
      generalize HL.el zs (k - 1) = pv at *
      clear hcell hcell1 hl9 HG
      have fin : ∀ wq : World, Below wr.heap.size wr wq → Below w.heap.size w wq := fun _ hq => HB.out.trans (hq.mono HB.out.size)
      have FIN := Lib.hid fin
      clear fin
      rcases HRC.out with h1 | ⟨h1, h2⟩ | ⟨h1, h2, h3⟩ | ⟨h1, h2, h3, h4⟩ | ⟨h1, h2, h3, h4⟩
      · have p1 : decide (y < 1) = true := decide_eq_true h1
        have HR : Hid (¬ CL.goodTo zs n) := Lib.hid (fun hg => by
          have := (HNO.out hg).1
          unfold CL.isId at this
          simp at this
          omega)
        clear h1 q2 HRC HNO HYES
        go_wp2
        refine wp_region_later (by kernel_rfl) (by kernel_rfl) ?_
        repeat (go_big_quiet_step (fail))
        refine wpQuiet_nil ?_
        intro W1 hw'
        obtain ⟨⟨wq, hq⟩, hw''⟩ := hw'
        subst hw''
        have HB1 := Lib.hid (FIN.out _ hq)
        clear q1 p1 hq
        go_wp2
        go_ret
        exact ⟨false, rfl, ⟨(fun h => by cases h), fun h => absurd h HR.out⟩, HB1.out⟩
      · have p1 : decide (y < 1) = false := decide_eq_false h1
        have p2 : decide (64 < y) = true := decide_eq_true h2
        have HR : Hid (¬ CL.goodTo zs n) := Lib.hid (fun hg => by
          have := (HNO.out hg).1
          unfold CL.isId at this
          simp at this
          omega)
        clear h1 h2 q2 HRC HNO HYES
        go_wp2
        refine wp_region_later (by kernel_rfl) (by kernel_rfl) ?_
        repeat (go_big_quiet_step (fail))
        refine wpQuiet_nil ?_
        intro W1 hw'
        obtain ⟨⟨wq, hq⟩, hw''⟩ := hw'
        subst hw''
        have HB1 := Lib.hid (FIN.out _ hq)
        clear q1 p1 p2 hq
        go_wp2
        go_ret
        exact ⟨false, rfl, ⟨(fun h => by cases h), fun h => absurd h HR.out⟩, HB1.out⟩
      · have p1 : decide (y < 1) = false := decide_eq_false h1
        have p2 : decide (64 < y) = false := decide_eq_false h2
        have HR : Hid (CL.goodTo zs (k + 1)) := Lib.hid (HYES.out (by unfold CL.isId; simp; omega) (fun h => by omega))
        subst h3
        clear h1 h2 q2 HRC HNO HYES
        rw [Nat.add_zero] at q1
        go_wp2
        refine wp_region_later (by kernel_rfl) (by kernel_rfl) ?_
        repeat (go_big_quiet_step (fail))
        refine wpQuiet_nil ?_
        intro W1 hw'
        obtain ⟨⟨wq, hq⟩, hw''⟩ := hw'
        subst hw''
        have HB1 := Lib.hid (FIN.out _ hq)
        clear q1 p1 p2 hq
        go_wp2
        go_roundw
        case rel => exact ⟨1, by omega, by simp, HR, HB1⟩
        case measure => simp [intOf]; omega
      · have p1 : decide (y < 1) = false := decide_eq_false h1
        have p2 : decide (64 < y) = false := decide_eq_false h2
        have p3 : decide (y ≤ pv) = true := decide_eq_true h4
        have HR : Hid (¬ CL.goodTo zs n) := Lib.hid (fun hg => by
          have := (HNO.out hg).2 h3
          omega)
        have q3 := q2 h3
        have hk0 : (0 : Int) < (k : Int) := by omega
        have e1 : IntKind.i64.wrap ((k : Int) - 1) = ((k - 1 : Nat) : Int) := by rw [IntWalk.i64_in _ ⟨by omega, by omega⟩]; omega
        have hk1 : k - 1 < n := by omega
        clear h1 h2 h4 q2 HRC HNO HYES
        go_wp2
        refine wp_region_later (by kernel_rfl) (by kernel_rfl) ?_
        repeat (go_big_quiet_step (fail))
        refine wpQuiet_nil ?_
        intro W1 hw'
        obtain ⟨⟨wq, hq⟩, hw''⟩ := hw'
        subst hw''
        have HB1 := Lib.hid (FIN.out _ hq)
        clear q1 q3 p1 p2 p3 hq
        go_wp2
        go_ret
        exact ⟨false, rfl, ⟨(fun h => by cases h), fun h => absurd h HR.out⟩, HB1.out⟩
      · have p1 : decide (y < 1) = false := decide_eq_false h1
        have p2 : decide (64 < y) = false := decide_eq_false h2
        have p3 : decide (y ≤ pv) = false := decide_eq_false h4
        have HR : Hid (CL.goodTo zs (k + 1)) := Lib.hid (HYES.out (by unfold CL.isId; simp; omega) (fun h => by omega))
        have q3 := q2 h3
        have hk0 : (0 : Int) < (k : Int) := by omega
        have e1 : IntKind.i64.wrap ((k : Int) - 1) = ((k - 1 : Nat) : Int) := by rw [IntWalk.i64_in _ ⟨by omega, by omega⟩]; omega
        have hk1 : k - 1 < n := by omega
        clear h1 h2 h4 q2 HRC HNO HYES
        go_wp2
        refine wp_region_later (by kernel_rfl) (by kernel_rfl) ?_
        repeat (go_big_quiet_step (fail))
        refine wpQuiet_nil ?_
        intro W1 hw'
        obtain ⟨⟨wq, hq⟩, hw''⟩ := hw'
        subst hw''
        have HB1 := Lib.hid (FIN.out _ hq)
        clear q1 q3 p1 p2 p3 hq
        go_wp2
        go_roundw
        case rel => exact ⟨k + 1, by omega, by simp, HR, HB1⟩
        case measure => simp [intOf]; omega
    · obtain rfl : k = n := by omega
      have hltI : ¬ (k : Int) < (k : Int) := by omega
      go_wp2
      go_ret
      exact ⟨true, rfl, ⟨fun _ => HG.out, fun _ => rfl⟩, HB.out⟩
set_option maxHeartbeats 1000000 in
set_option maxRecDepth 100000 in
theorem ref_valid (p : Option Addr) (n c B : Nat) (zs : List Int) (w : World) (h : RdI w B p n zs) (hB : B ≤ w.heap.size) (hn : n ≤ 1000) :
    Calls Tryz.prog 24 #[.slice p n c] w (TellP (CL.Valid zs) w) := by
  have HR := Lib.hid (ref_rising p n c B zs w h hB hn)
  have HL0 := Lib.hid h.1
  clear h
  by_cases h1 : (1 : Int) ≤ (n : Int)
  · by_cases h9 : (n : Int) ≤ 9
    · go_enter Tryz.func24, Tryz.ntmps24
      go_wp2_with fail
      refine HR.out.mono ?_
      rintro e w1 ⟨b, rfl, hb, hbb⟩
      have HBI : Hid (b = true ↔ CL.Valid zs) := Lib.hid ⟨fun e => ⟨by have := HL0.out; omega, by have := HL0.out; omega, by rw [HL0.out]; exact hb.1 e⟩, fun e => hb.2 (by have := e.2.2; rwa [HL0.out] at this)⟩
      have HB := Lib.hid hbb
      clear hb hbb HR
      go_wp2
      go_ret
      exact ⟨b, rfl, HBI.out, HB.out⟩
    · have HBI : Hid (¬ CL.Valid zs) := Lib.hid (fun e => by have := e.2.1; have := HL0.out; omega)
      go_enter Tryz.func24, Tryz.ntmps24
      go_wp2
      go_ret
      exact ⟨false, rfl, ⟨(fun h => by cases h), fun h => absurd h HBI.out⟩, Below.refl _ _⟩
  · have HBI : Hid (¬ CL.Valid zs) := Lib.hid (fun e => by have := e.1; have := HL0.out; omega)
    go_enter Tryz.func24, Tryz.ntmps24
    go_wp2
    go_ret
    exact ⟨false, rfl, ⟨(fun h => by cases h), fun h => absurd h HBI.out⟩, Below.refl _ _⟩
theorem filt_succ {l : List Int} {i : Nat} (f : Int → Bool) (h : i < l.length) : ((l.take (i + 1)).filter f).length = ((l.take i).filter f).length + (if f (HL.el l i) = true then 1 else 0) := by
  rw [CL.take_succ_el h, List.filter_append, List.length_append]
  congr 1
  by_cases e : f (HL.el l i) = true
  · simp [e]
  · simp [e]
set_option maxHeartbeats 8000000 in
set_option maxRecDepth 100000 in
theorem ref_near (p q : Option Addr) (n c m d : Nat) (zs us : List Int) (w : World) (h : RdI w w.heap.size p n zs) (h2 : RdI w w.heap.size q m us) (hn : n ≤ 1000) (hm : m ≤ 1000) :
    Calls Tryz.prog 22 #[.slice p n c, .slice q m d] w fun e w' => e = .returned (.bool (CL.near zs us)) ∧ Below w.heap.size w w' := by
  obtain ⟨N, hN⟩ : ∃ N, (CL.nrm zs).length = N := ⟨_, rfl⟩
  obtain ⟨M, hM⟩ : ∃ M, (CL.nrm us).length = M := ⟨_, rfl⟩
  have hNn : N ≤ 1000 := by have := CL.nrm_length zs; have := h.1; omega
  have hMm : M ≤ 1000 := by have := CL.nrm_length us; have := h2.1; omega
  have HNRM := Lib.hid (ref_norm p n c zs w h hn)
  have HU := Lib.hid h2
  have HNN := Lib.hid hN
  have HMM := Lib.hid hM
  clear h h2 hN hM
  go_enter Tryz.func22, Tryz.ntmps22
  go_wp2_with fail
  refine HNRM.out.mono ?_
  rintro e w1 ⟨v, rfl, ho, hb⟩
  obtain ⟨g, cap, hv⟩ := owns_slice ho.1
  rw [HNN.out] at hv
  subst hv
  have HA := Lib.hid ho.rd.1
  have HB := Lib.hid hb
  have HNR2 := Lib.hid (ref_norm q m d us w1 ((HU.out.below hb).more hb.size) hm)
  clear ho hb HNRM
  go_wp2_with fail
  refine HNR2.out.mono ?_
  rintro e w2 ⟨v, rfl, ho, hb⟩
  obtain ⟨g2, cap2, hv⟩ := owns_slice ho.1
  rw [HMM.out] at hv
  subst hv
  have HA2 := Lib.hid ho.rd.1
  have HA1 := Lib.hid ((HA.out.below hb).more hb.size)
  have HB2 : Hid (Below w.heap.size w w2) := HB.out.trans (hb.mono HB.out.size)
  clear ho hb HNR2 HA HB
  go_wp2
  go_loopw [7, 8] (fun cv iv wr => ∃ i : Nat, i ≤ N ∧ iv = .int .i64 i ∧ ∃ t : Nat, t ≤ i ∧ cv = .int .i64 t ∧ Hid (t = (((CL.nrm zs).take i).filter (fun x => !decide (x ∈ CL.nrm us))).length) ∧ wr = w2) (fun _ iv _ => N - (intOf iv).toNat)
  case atStart => exact ⟨0, Nat.zero_le _, rfl, 0, Nat.le_refl _, rfl, Lib.hid (by simp), rfl⟩
  case round =>
    obtain ⟨i, hi, rfl, t, hti, rfl, HT, rfl⟩ := hrel
    by_cases hlt : i < N
    · have hltI : (i : Int) < (N : Int) := by omega
      obtain ⟨b, o, hp, _, hcs⟩ := HA1.out.2 (by omega)
      have hcell := hcs i hlt
      clear hcs
      subst hp
      have HCS := Lib.hid (filt_succ (l := CL.nrm zs) (i := i) (fun x => !decide (x ∈ CL.nrm us)) (by rw [HNN.out]; exact hlt))
      have HHAS := Lib.hid (ref_has g2 M cap2 _ (CL.nrm us) (HL.el (CL.nrm zs) i) wr HA2.out (by omega))
      generalize hx : HL.el (CL.nrm zs) i = x at *
      clear hx
      cases hd : decide (x ∈ CL.nrm us)
      · rw [hd] at HHAS
        have HT2 : Hid (t + 1 = (((CL.nrm zs).take (i + 1)).filter (fun x => !decide (x ∈ CL.nrm us))).length) := Lib.hid (by rw [HCS.out, HT.out, hd]; rfl)
        clear hd HT HCS
        go_wp2_with fail
        refine HHAS.out.mono ?_
        rintro e w3 ⟨rfl, rfl⟩
        go_wp2
        go_roundw
        case rel => exact ⟨i + 1, by omega, by go_num, t + 1, by omega, by go_num, HT2, trivial⟩
        case measure => simp [intOf]; omega
      · rw [hd] at HHAS
        have HT2 : Hid (t = (((CL.nrm zs).take (i + 1)).filter (fun x => !decide (x ∈ CL.nrm us))).length) := Lib.hid (by rw [HCS.out, ← HT.out, hd]; rfl)
        clear hd HT HCS
        go_wp2_with fail
        refine HHAS.out.mono ?_
        rintro e w3 ⟨rfl, rfl⟩
        go_wp2
        go_roundw
        case rel => exact ⟨i + 1, by omega, by go_num, t, by omega, rfl, HT2, trivial⟩
        case measure => simp [intOf]; omega
    · obtain rfl : i = N := by omega
      have hltI : ¬ (i : Int) < (i : Int) := by omega
      obtain ⟨t0, ht0⟩ : ∃ t0, ((CL.nrm zs).filter (fun x => !decide (x ∈ CL.nrm us))).length = t0 := ⟨_, rfl⟩
      have HT0 : Hid (t = t0) := Lib.hid (by have e := HT.out; rw [List.take_of_length_le (by rw [HNN.out]; exact Nat.le_refl _), ht0] at e; exact e)
      have HT9 := Lib.hid ht0
      clear ht0 HT
      go_wp2
      go_loopw [7, 9] (fun cv iv wj => ∃ j : Nat, j ≤ M ∧ iv = .int .i64 j ∧ ∃ s : Nat, s ≤ j + t ∧ cv = .int .i64 s ∧ Hid (s = t + (((CL.nrm us).take j).filter (fun x => !decide (x ∈ CL.nrm zs))).length) ∧ wj = wr) (fun _ iv _ => M - (intOf iv).toNat)
      case atStart => exact ⟨0, Nat.zero_le _, rfl, t, by omega, rfl, Lib.hid (by simp), rfl⟩
      case round =>
        obtain ⟨j, hj, rfl, s, hsj, rfl, HS, rfl⟩ := hrel
        by_cases hlt2 : j < M
        · have hltJ : (j : Int) < (M : Int) := by omega
          obtain ⟨b, o, hp, _, hcs⟩ := HA2.out.2 (by omega)
          have hcell := hcs j hlt2
          clear hcs
          subst hp
          have HCS := Lib.hid (filt_succ (l := CL.nrm us) (i := j) (fun x => !decide (x ∈ CL.nrm zs)) (by rw [HMM.out]; exact hlt2))
          have HHAS := Lib.hid (ref_has g i cap _ (CL.nrm zs) (HL.el (CL.nrm us) j) wr HA1.out (by omega))
          generalize hx : HL.el (CL.nrm us) j = x at *
          clear hx
          cases hd : decide (x ∈ CL.nrm zs)
          · rw [hd] at HHAS
            have HT2 : Hid (s + 1 = t + (((CL.nrm us).take (j + 1)).filter (fun x => !decide (x ∈ CL.nrm zs))).length) := Lib.hid (by rw [HCS.out, HS.out, hd]; simp; omega)
            clear hd HS HCS
            go_wp2_with fail
            refine HHAS.out.mono ?_
            rintro e w3 ⟨rfl, rfl⟩
            go_wp2
            go_roundw
            case rel => exact ⟨j + 1, by omega, by go_num, s + 1, by omega, by go_num, HT2, trivial⟩
            case measure => simp [intOf]; omega
          · rw [hd] at HHAS
            have HT2 : Hid (s = t + (((CL.nrm us).take (j + 1)).filter (fun x => !decide (x ∈ CL.nrm zs))).length) := Lib.hid (by rw [HCS.out, hd]; have := HS.out; simp; omega)
            clear hd HS HCS
            go_wp2_with fail
            refine HHAS.out.mono ?_
            rintro e w3 ⟨rfl, rfl⟩
            go_wp2
            go_roundw
            case rel => exact ⟨j + 1, by omega, by go_num, s, by omega, rfl, HT2, trivial⟩
            case measure => simp [intOf]; omega
        · obtain rfl : j = M := by omega
          have hltJ : ¬ (j : Int) < (j : Int) := by omega
          have HFIN : Hid (CL.near zs us = ((s : Int) == 1)) := Lib.hid (by
            have e := HS.out
            rw [List.take_of_length_le (by rw [HMM.out]; exact Nat.le_refl _), HT0.out, ← HT9.out, ← CL.odd_two] at e
            unfold CL.near
            rw [← e]
            by_cases h1 : s = 1
            · simp [h1]
            · have : ((s : Int) == 1) = false := by rw [beq_eq_false_iff_ne]; omega
              rw [this]; simpa using h1)
          clear HS
          go_wp2
          go_ret
          exact ⟨by rw [HFIN.out]; simp, HB2.out⟩
end Go.Proofs.YtaodldagmmephaaGreat

/- Numbers and members as bytes, plain: what is laid is read again. -/
namespace Go.Proofs.YtaodldagmmephaaGreat
open Go.RowKit
/-- A number as bytes (f: how many more there may be). -/
def varU : Nat → Nat → List UInt8
  | 0, u => [UInt8.ofNat u]
  | f + 1, u => if u < 128 then [UInt8.ofNat u] else UInt8.ofNat (u % 128 + 128) :: varU f (u / 128)
def zig (v : Int) : Nat := if 0 ≤ v then 2 * v.toNat else 2 * (-(v + 1)).toNat + 1
/-- What the code makes of a number, whatever it is. -/
def zigW (v : Int) : Nat := (if v < 0 then IntKind.u64.wrap (IntKind.u64.wrap (IntKind.u64.wrap (wrap64 (-wrap64 (v + 1))) * 2) + 1) else IntKind.u64.wrap (IntKind.u64.wrap v * 2)).toNat
def varL (v : Int) : List UInt8 := varU 9 (zigW v)
def varsL (l : List Int) : List UInt8 := l.flatMap varL
def memsL (l : List Int) : List UInt8 := varL (l.length : Int) ++ varsL l
def bytesOf (l : List UInt8) : ByteArray := ⟨l.toArray⟩
def okI (v : Int) : Prop := -9223372036854775808 ≤ v ∧ v ≤ 9223372036854775807
theorem unzig_zig (v : Int) : unzig (zig v) = v := by
  unfold unzig zig
  split
  · rw [if_pos (by omega)]
    omega
  · rw [if_neg (by omega)]
    omega
theorem zig_lt {v : Int} (h : okI v) : zig v < 2 ^ 64 := by
  unfold okI at h
  unfold zig
  split <;> omega
theorem zigW_lt (v : Int) : zigW v < 2 ^ 64 := by
  unfold zigW
  split
  · rw [IntKind.wrap_u64 (_ + 1)]; omega
  · rw [IntKind.wrap_u64 (_ * 2)]; omega
theorem zigW_eq (v : Int) : (v < 0 → ((zigW v : Nat) : Int) = IntKind.u64.wrap (IntKind.u64.wrap (IntKind.u64.wrap (wrap64 (-wrap64 (v + 1))) * 2) + 1)) ∧ (¬ v < 0 → ((zigW v : Nat) : Int) = IntKind.u64.wrap (IntKind.u64.wrap v * 2)) := by
  unfold zigW
  constructor
  · intro h
    rw [if_pos h, IntKind.wrap_u64 (_ + 1)]
    omega
  · intro h
    rw [if_neg h, IntKind.wrap_u64 (_ * 2)]
    omega
theorem zigW_ok {v : Int} (h : okI v) : zigW v = zig v := by
  unfold okI at h
  have hq := zigW_eq v
  unfold zig
  by_cases h0 : v < 0
  · have h1 := hq.1 h0
    have e : wrap64 (-wrap64 (v + 1)) = -(v + 1) := by unfold wrap64; omega
    rw [e, IntKind.wrap_u64, IntKind.wrap_u64, IntKind.wrap_u64] at h1
    rw [if_neg (by omega)]
    omega
  · have h1 := hq.2 h0
    rw [IntKind.wrap_u64, IntKind.wrap_u64] at h1
    rw [if_pos (by omega)]
    omega
theorem u8_nat {n : Nat} (h : n < 256) : (UInt8.ofNat n).toNat = n := by
  show n % 256 = n
  omega
theorem numGo_var : ∀ (f i u n : Nat) (r : List UInt8), i + f = 9 → u < 2 ^ (64 - 7 * i) → (0 < i → 0 < u) → numGo (varU f u ++ r) i n = some (n + u * 2 ^ (7 * i), r)
  | 0, i, u, n, r, hi, hu, h0 => by
    have hi9 : i = 9 := by omega
    subst hi9
    have hu2 : u < 2 := hu
    have hc : (UInt8.ofNat u).toNat = u := u8_nat (by omega)
    have hp := h0 (by omega)
    unfold varU numGo
    rw [List.cons_append, List.nil_append]
    (try dsimp only)
    rw [hc, if_neg (by omega), if_neg (by omega), if_neg (by omega), Nat.mod_eq_of_lt (show u < 128 by omega)]
  | f + 1, i, u, n, r, hi, hu, h0 => by
    unfold varU
    split
    · rename_i hlt
      have hc : (UInt8.ofNat u).toNat = u := u8_nat (by omega)
      unfold numGo
      rw [List.cons_append, List.nil_append]
      (try dsimp only)
      rw [hc, if_neg (by omega), if_neg (by omega), if_neg (by omega), Nat.mod_eq_of_lt hlt]
    · rename_i hge
      have hc : (UInt8.ofNat (u % 128 + 128)).toNat = u % 128 + 128 := u8_nat (by omega)
      have h1 : u / 128 < 2 ^ (64 - 7 * (i + 1)) := by
        have e : 2 ^ (64 - 7 * i) = 2 ^ (64 - 7 * (i + 1)) * 128 := by
          rw [show (128 : Nat) = 2 ^ 7 from rfl, ← Nat.pow_add]
          congr 1
          omega
        rw [e] at hu
        exact Nat.div_lt_of_lt_mul (by rw [Nat.mul_comm]; exact hu)
      have ih := numGo_var f (i + 1) (u / 128) (n + u % 128 * 2 ^ (7 * i)) r (by omega) h1 (fun _ => by omega)
      rw [List.cons_append]
      unfold numGo
      (try dsimp only)
      rw [hc, if_neg (by omega), if_pos (by omega), show (u % 128 + 128) % 128 = u % 128 by omega, ih]
      have e2 : 2 ^ (7 * (i + 1)) = 2 ^ (7 * i) * 128 := by
        rw [show (128 : Nat) = 2 ^ 7 from rfl, ← Nat.pow_add]
        congr 1
      congr 2
      rw [e2, Nat.add_assoc]
      congr 1
      have e3 : u = u % 128 + 128 * (u / 128) := (Nat.mod_add_div u 128).symm
      generalize 2 ^ (7 * i) = p at *
      generalize hq : u / 128 = q at *
      generalize hm : u % 128 = m at *
      rw [e3, Nat.add_mul, Nat.mul_comm p 128, ← Nat.mul_assoc, Nat.mul_comm q 128]
theorem numb_var {v : Int} (h : okI v) (r : List UInt8) : numb (varL v ++ r) = some (v, r) := by
  unfold numb varL
  rw [zigW_ok h]
  rw [numGo_var 9 0 (zig v) 0 r rfl (zig_lt h) (fun h => absurd h (Nat.lt_irrefl 0))]
  show some (unzig (0 + zig v * 2 ^ (7 * 0)), r) = _
  rw [Nat.mul_zero, Nat.pow_zero, Nat.mul_one, Nat.zero_add, unzig_zig]
theorem varS_var {v : Int} (h : okI v) (r : List UInt8) : varS (some (varL v ++ r)) = (v, some r) := by
  unfold varS
  dsimp only
  rw [numb_var h r]
theorem readS_vars : ∀ (k : Nat) (l : List Int) (r : List UInt8), (∀ x ∈ l, okI x) → k ≤ l.length → readS (some (varsL l ++ r)) k = (l.take k, some (varsL (l.drop k) ++ r))
  | 0, l, r, _, _ => rfl
  | k + 1, l, r, hl, hk => by
    have ih := readS_vars k l r hl (by omega)
    have hx : l.drop k = l[k] :: l.drop (k + 1) := List.drop_eq_getElem_cons (by omega)
    have hv := varS_var (hl l[k] (List.getElem_mem _)) (varsL (l.drop (k + 1)) ++ r)
    have e : varsL (l.drop k) ++ r = varL l[k] ++ (varsL (l.drop (k + 1)) ++ r) := by
      rw [hx]
      unfold varsL
      rw [List.flatMap_cons, List.append_assoc]
    show ((readS _ k).1 ++ [(varS (readS _ k).2).1], (varS (readS _ k).2).2) = _
    rw [ih]
    dsimp only
    rw [e, hv]
    dsimp only
    rw [List.take_succ_eq_append_getElem (by omega)]
theorem readS_none : ∀ k, (readS none k).2 = none
  | 0 => rfl
  | k + 1 => by
    show (varS (readS none k).2).2 = none
    rw [readS_none k]
    rfl
/-- What is laid as members is read as these, if they are valid. -/
theorem gm_put (l : List Int) (hl : ∀ x ∈ l, okI x) (hn : l.length ≤ 1000000) : gm (bytesOf (memsL l)) = if validB l = true then some l else none := by
  have e0 : (bytesOf (memsL l)).data.toList = varL (l.length : Int) ++ varsL l := rfl
  have hv := varS_var (v := (l.length : Int)) (by unfold okI; omega) (varsL l)
  unfold gm
  rw [e0]
  by_cases h9 : l.length ≤ 9
  · have hc : countS 9 (some (varL (l.length : Int) ++ varsL l)) = ((l.length : Int), some (varsL l)) := by
      unfold countS
      rw [hv, if_neg (by
        rintro (h | h | h)
        · cases h
        · omega
        · omega)]
    rw [hc]
    dsimp only
    have hr := readS_vars l.length l [] hl (Nat.le_refl _)
    rw [List.append_nil, List.take_length, List.drop_length, List.append_nil] at hr
    rw [show ((l.length : Int)).toNat = l.length by omega, hr]
    dsimp only
    have : varsL ([] : List Int) = [] := rfl
    rw [this]
    by_cases h : validB l = true
    · rw [if_pos ⟨rfl, h⟩, if_pos h]
    · rw [if_neg (fun e => h e.2), if_neg h]
  · have hc : countS 9 (some (varL (l.length : Int) ++ varsL l)) = (0, none) := by
      unfold countS
      rw [hv, if_pos (.inr (.inr (by omega)))]
    rw [hc]
    dsimp only
    rw [readS_none, if_neg (fun e => by cases e.1)]
    rw [if_neg]
    intro h
    have := ((valid_iff l).1 h).2.1
    omega
theorem varU_len : ∀ f u, 1 ≤ (varU f u).length ∧ (varU f u).length ≤ f + 1
  | 0, u => ⟨Nat.le_refl _, Nat.le_refl _⟩
  | f + 1, u => by
    unfold varU
    split
    · exact ⟨Nat.le_refl _, Nat.le_add_left _ _⟩
    · have := varU_len f (u / 128)
      rw [List.length_cons]
      omega
theorem varL_len (v : Int) : 1 ≤ (varL v).length ∧ (varL v).length ≤ 10 := varU_len 9 _
theorem varsL_len : ∀ l : List Int, (varsL l).length ≤ 10 * l.length
  | [] => Nat.le_refl _
  | x :: l => by
    have h1 := varL_len x
    have h2 := varsL_len l
    unfold varsL at *
    rw [List.flatMap_cons, List.length_append, List.length_cons]
    omega
theorem varsL_take (l : List Int) (i : Nat) (h : i < l.length) : varsL (l.take (i + 1)) = varsL (l.take i) ++ varL (HL.el l i) := by
  unfold varsL
  rw [List.take_succ_eq_append_getElem h, List.flatMap_append]
  congr 1
  show varL l[i] ++ [] = _
  rw [List.append_nil]
  congr 1
  unfold HL.el
  rw [List.getD_eq_getElem?_getD, List.getElem?_eq_getElem h]
  rfl
end Go.Proofs.YtaodldagmmephaaGreat

/- arboretumref1: Var, Vars, Text; arboretumref16: PutMembers. -/
namespace Go.Proofs.YtaodldagmmephaaGreat
open Go.RowKit
theorem info_u8v : (Tryz.prog.info? 5).map (fun i => (i.zero, i.size, i.bytes)) = some (some (.int .u8 0), 1, 1) := by kernel_rfl
def ucells (l : List UInt8) : List Value := l.map fun c => .int .u8 c.toNat
theorem ucells_len (l : List UInt8) : (ucells l).length = l.length := List.length_map _
theorem ucells_str (l : List UInt8) : Lib.strCells (bytesOf l) = ucells l := by
  unfold Lib.strCells ucells bytesOf
  simp
theorem ucells_app (a b : List UInt8) : ucells (a ++ b) = ucells a ++ ucells b := List.map_append
/-- Bytes that lie as a row, as a string. -/
theorem conv_bytes {W : World} {base g n cp : Nat} {l : List UInt8} (ho : W.ownsRow base 5 1 (.slice (some ⟨g, 0, none⟩) n cp) n (ucells l)) (hn : l.length = n) : (convert 142 9 (.slice (some ⟨g, 0, none⟩) n cp)).run Tryz.prog W = .ok (.string (bytesOf l)) W := by
  subst hn
  exact run_convert_bytes_back (P := Tryz.prog) W 142 9 5 ⟨g, 0, none⟩ cp l Tryz.underlying142 Tryz.underlying5 Tryz.underlying9 (fun j hj => by
    refine ho.cells (g := g) rfl j _ ?_
    unfold ucells
    rw [List.getElem?_map, List.getElem?_eq_getElem hj]
    rfl)
set_option maxHeartbeats 2000000 in
set_option maxRecDepth 100000 in
theorem conv_row {W : World} {base n cp : Nat} {q : Option Addr} {l : List UInt8} (ho : W.ownsRow base 5 1 (.slice q n cp) n (ucells l)) (hn : l.length = n) : (convert 142 9 (.slice q n cp)).run Tryz.prog W = .ok (.string (bytesOf l)) W := by
  rcases ho.2 with ⟨h, _⟩ | ⟨g, cap, cur, h, _⟩
  · injection h with h1 h2 h3
    subst h1 h2 h3
    have : l = [] := List.eq_nil_of_length_eq_zero hn
    subst this
    rw [run_convert_bytes_string W 142 9 5 none 0 0 Tryz.underlying142 Tryz.underlying5 Tryz.underlying9]
    rfl
  · injection h with h1 _ h3
    subst h1
    exact conv_bytes ho hn
set_option maxHeartbeats 2000000 in
set_option maxRecDepth 100000 in
theorem ref_var (v : Int) (w : World) :
    Calls Tryz.prog 67 #[.int .i64 v] w fun e w' => e = .returned (.string (bytesOf (varL v))) ∧ Below w.heap.size w w' := by
  obtain ⟨i0, hi0, hz0, hz1, hz2⟩ := info_parts info_u8v
  have HZL := Lib.hid (zigW_lt v)
  have HZ : Hid (varL v = varU 9 (zigW v)) := Lib.hid rfl
  have HZ1 := Lib.hid (zigW_eq v)
  generalize zigW v = u0 at *
  go_enter Tryz.func67, Tryz.ntmps67
  go_upto_if 9 with fail
  go_cut [3] (fun su wx => su = .int .u64 (u0 : Nat) ∧ wx = w)
  case first =>
    by_cases h0 : v < 0
    · have e1 := Lib.hid (HZ1.out.1 h0)
      have d0 : decide (v < 0) = true := decide_eq_true h0
      go_wp2
      go_meet
      case rel => exact ⟨by rw [e1.out], rfl⟩
    · have e1 := Lib.hid (HZ1.out.2 h0)
      have d0 : decide (v < 0) = false := decide_eq_false h0
      go_wp2
      go_meet
      case rel => exact ⟨by rw [e1.out], rfl⟩
  case rest =>
  obtain ⟨rfl, hwx⟩ := hcut
  have hwx := hwx.symm
  subst hwx
  go_wp2
  go_loopw [3, 4] (fun uv bv wr => ∃ (f u : Nat) (l : List UInt8), f ≤ 9 ∧ uv = .int .u64 (u : Nat) ∧ Hid (u < 2 ^ 64 ∧ u < 128 ^ (f + 1) ∧ l ++ varU f u = varL v ∧ l.length ≤ 10) ∧ Below w.heap.size w wr ∧ wr.ownsRow w.heap.size 5 1 bv l.length (ucells l)) (fun uv _ _ => (intOf uv).toNat)
  case atStart => exact ⟨9, u0, [], Nat.le_refl _, rfl, Lib.hid ⟨HZL.out, by have := HZL.out; show u0 < 128 ^ 10; omega, by rw [HZ.out]; rfl, Nat.zero_le _⟩, Below.refl _ _, World.ownsRow_nil _ _ _ _⟩
  case round =>
    obtain ⟨f, u, l, hf, rfl, HU, hb, ho⟩ := hrel
    obtain ⟨q, cp, rfl⟩ := owns_slice ho
    have HB := Lib.hid hb
    have HO := Lib.hid ho
    have hsz := hb.size
    clear hb ho
    have hu64 := HU.out.1
    by_cases h128 : 128 ≤ u
    · have h128I : (128 : Int) ≤ (u : Int) := by omega
      obtain ⟨f', rfl⟩ : ∃ f', f = f' + 1 := by
        cases f with
        | zero => have := HU.out.2.1; omega
        | succ f => exact ⟨f, rfl⟩
      have HN : Hid (u / 128 < 2 ^ 64 ∧ u / 128 < 128 ^ (f' + 1) ∧ (l ++ [UInt8.ofNat (u % 128 + 128)]) ++ varU f' (u / 128) = varL v ∧ ((u / 128 : Nat) : Int) = (u : Int) / 128 ∧ u / 128 < u) := Lib.hid ⟨by omega, by
        have h := HU.out.2.1
        rw [Nat.pow_succ] at h
        exact Nat.div_lt_of_lt_mul (by rw [Nat.mul_comm]; exact h), by
        have h := HU.out.2.2.1
        unfold varU at h
        rw [if_neg (by omega)] at h
        rw [List.append_assoc]
        exact h, by omega, by omega⟩
      have HC : Hid (ucells (l ++ [UInt8.ofNat (u % 128 + 128)]) = ucells l ++ [.int .u8 ((u : Int) % 128 + 128)]) := Lib.hid (by
        rw [ucells_app]
        congr 1
        show [Value.int .u8 ((UInt8.ofNat (u % 128 + 128)).toNat : Int)] = _
        rw [u8_nat (by omega)]
        congr 2)
      go_wp2_with (at_builtin; refine wpList_append_own _ rfl _ _ 142 rfl w.heap.size 5 i0 _ 1 1 Tryz.underlying142 hi0 hz0 hz1 hz2 rfl (by omega) (.slice q l.length cp) l.length (ucells l) rfl ?own ⟨wr.heap.size, 0, none⟩ 1 1 [.int .u8 ((u : Int) % 128 + 128)] rfl rfl ?cells ?one ?len ?bytes ?base ?_; (case own => exact HO.out.alloc _); (case cells => exact new_cells wr _ _); (case one => simp [Value.oneCell']); (case len => unfold maxLen; have := HU.out.2.2.2; omega); (case bytes => have := HU.out.2.2.2; omega); (case base => simp; omega); intro v8 w8 hown hgr _; have HOW := Lib.hid hown; have HGR := Lib.hid hgr; clear hown hgr)
      have HBE : Hid (Below w.heap.size w w8) := Lib.hid ((HB.out.alloc hsz _).grown HGR.out (by simp; omega) (fun g hg => (HO.out.lt g hg).1))
      have HOE : Hid (w8.ownsRow w.heap.size 5 1 v8 (l ++ [UInt8.ofNat (u % 128 + 128)]).length (ucells (l ++ [UInt8.ofNat (u % 128 + 128)]))) := Lib.hid (by rw [HC.out, List.length_append]; exact HOW.out)
      have HL2 : Hid ((l ++ [UInt8.ofNat (u % 128 + 128)]).length ≤ 10) := Lib.hid (by
        have h := congrArg List.length HN.out.2.2.1
        rw [List.length_append] at h
        have := varL_len v
        omega)
      clear HOW HGR HO HB HC
      go_wp2
      go_roundw
      case rel => exact ⟨f', u / 128, _, by omega, by rw [HN.out.2.2.2.1], Lib.hid ⟨HN.out.1, HN.out.2.1, HN.out.2.2.1, HL2.out⟩, HBE.out, HOE.out⟩
      case measure => simp [intOf]; omega
    · have h128I : ¬ (128 : Int) ≤ (u : Int) := by omega
      have HN : Hid (l ++ [UInt8.ofNat u] = varL v) := Lib.hid (by
        have h := HU.out.2.2.1
        cases f with
        | zero => exact h
        | succ f =>
          unfold varU at h
          rw [if_pos (by omega)] at h
          exact h)
      have HC : Hid (ucells (l ++ [UInt8.ofNat u]) = ucells l ++ [.int .u8 (u : Int)]) := Lib.hid (by
        rw [ucells_app]
        congr 1
        show [Value.int .u8 ((UInt8.ofNat u).toNat : Int)] = _
        rw [u8_nat (by omega)])
      go_wp2_with (at_builtin; refine wpList_append_own _ rfl _ _ 142 rfl w.heap.size 5 i0 _ 1 1 Tryz.underlying142 hi0 hz0 hz1 hz2 rfl (by omega) (.slice q l.length cp) l.length (ucells l) rfl ?own ⟨wr.heap.size, 0, none⟩ 1 1 [.int .u8 (u : Int)] rfl rfl ?cells ?one ?len ?bytes ?base ?_; (case own => exact HO.out.alloc _); (case cells => exact new_cells wr _ _); (case one => simp [Value.oneCell']); (case len => unfold maxLen; have := HU.out.2.2.2; omega); (case bytes => have := HU.out.2.2.2; omega); (case base => simp; omega); intro v8 w8 hown hgr _; have HOW := Lib.hid hown; have HGR := Lib.hid hgr; clear hown hgr; obtain ⟨g, cq, hvq, _, _, _⟩ := owns_len HOW.out (by omega); subst hvq; have hcv := conv_bytes (l := l ++ [UInt8.ofNat u]) (base := w.heap.size) (by rw [HC.out]; exact HOW.out) (by rw [List.length_append]; rfl))
      have HBE : Hid (Below w.heap.size w w8) := Lib.hid ((HB.out.alloc hsz _).grown HGR.out (by simp; omega) (fun g hg => (HO.out.lt g hg).1))
      go_wp2
      go_ret
      exact ⟨by rw [← HN.out]; rfl, HBE.out⟩
set_option maxHeartbeats 2000000 in
set_option maxRecDepth 100000 in
theorem ref_vars (p : Option Addr) (n c : Nat) (l : List Int) (w : World) (h : RdI w w.heap.size p n l) (hn : n ≤ 100000) :
    Calls Tryz.prog 68 #[.slice p n c] w fun e w' => e = .returned (.string (bytesOf (varsL l))) ∧ Below w.heap.size w w' := by
  obtain ⟨i0, hi0, hz0, hz1, hz2⟩ := info_parts info_u8v
  have HP := Lib.hid h
  have hl := h.1
  clear h
  go_enter Tryz.func68, Tryz.ntmps68
  go_wp2
  go_loopw [3, 4] (fun bv iv wr => ∃ i : Nat, i ≤ n ∧ iv = .int .i64 (i : Int) ∧ Below w.heap.size w wr ∧ wr.ownsRow w.heap.size 5 1 bv (varsL (l.take i)).length (ucells (varsL (l.take i)))) (fun _ iv _ => n - (intOf iv).toNat)
  case atStart => exact ⟨0, Nat.zero_le _, rfl, Below.refl _ _, World.ownsRow_nil _ _ _ _⟩
  case round =>
    obtain ⟨i, hi, rfl, hb, ho⟩ := hrel
    obtain ⟨q, cp, rfl⟩ := owns_slice ho
    have HB := Lib.hid hb
    have HO := Lib.hid ho
    have HLN : Hid ((varsL (l.take i)).length ≤ 1000000) := Lib.hid (by
      have := varsL_len (l.take i)
      rw [List.length_take] at this
      omega)
    clear hb ho
    by_cases hlt : i < n
    · have hltI : (i : Int) < (n : Int) := by omega
      obtain ⟨b1, o1, e1, hb1, c1⟩ := HP.out.2 (by omega)
      subst e1
      have q1 := (HB.out.cell (p := ⟨b1, o1 + i, none⟩) hb1).trans (c1 i hlt)
      have HN : Hid (varsL (l.take (i + 1)) = varsL (l.take i) ++ varL (HL.el l i)) := Lib.hid (varsL_take l i (by omega))
      have HC := Lib.hid (ref_var (HL.el l i) wr)
      have HVL := Lib.hid (varL_len (HL.el l i))
      generalize HL.el l i = x at *
      clear c1
      go_wp2_with fail
      with_reducible refine (HC.out).mono ?_
      rintro e w2 ⟨rfl, hb2⟩
      have HB2 := Lib.hid (HB.out.trans (hb2.mono HB.out.size))
      have HO2 := Lib.hid ((Fr.of_all (S := fun _ => False) hb2).owns HO.out (fun _ _ h => h))
      have HS2 := Lib.hid (Nat.le_trans HB.out.size hb2.size)
      have hss : (bytesOf (varL x)).size = (varL x).length := by show (varL x).toArray.size = _; rw [List.size_toArray]
      have HSS := Lib.hid hss
      clear hb2 q1 HO HB HC hss
      go_wp2_with (at_builtin; refine Lib.wpList_append_own_string _ rfl _ _ 142 9 rfl w.heap.size 5 i0 Tryz.underlying142 Tryz.underlying9 hi0 hz0 hz1 hz2 (.slice q (varsL (l.take i)).length cp) (varsL (l.take i)).length (ucells (varsL (l.take i))) rfl HO2.out (bytesOf (varL x)) rfl ?len ?bytes HS2.out ?_; (case len => rw [HSS.out]; unfold maxLen; have := HVL.out; have := HLN.out; omega); (case bytes => rw [HSS.out]; have := HVL.out; have := HLN.out; omega); intro v8 w8 hown hgr _; have HOW := Lib.hid hown; have HGR := Lib.hid hgr; clear hown hgr)
      have HBE : Hid (Below w.heap.size w w8) := Lib.hid (HB2.out.grown HGR.out HS2.out (fun g hg => (HO2.out.lt g hg).1))
      have HOE : Hid (w8.ownsRow w.heap.size 5 1 v8 (varsL (l.take (i + 1))).length (ucells (varsL (l.take (i + 1))))) := Lib.hid (by
        rw [HN.out, List.length_append, ucells_app, ← HSS.out, ← ucells_str (varL x)]
        exact HOW.out)
      clear HOW HGR HO2 HB2
      go_wp2
      go_roundw
      case rel => exact ⟨i + 1, by omega, by go_num, HBE.out, HOE.out⟩
      case measure => simp [intOf]; omega
    · have hltI : ¬ (i : Int) < (n : Int) := by omega
      have HFL : Hid (l.take i = l) := Lib.hid (List.take_of_length_le (by omega))
      rw [HFL.out] at HO HLN ⊢
      have HSTR : Hid ((convert 142 9 (.slice q (varsL l).length cp)).run Tryz.prog wr = .ok (.string (bytesOf (varsL l))) wr) := Lib.hid (by
        exact conv_row HO.out rfl)
      have hcv := HSTR.out
      go_wp2
      go_ret
      exact ⟨rfl, HB.out⟩
theorem bytes_app (a b : List UInt8) : bytesOf a ++ bytesOf b = bytesOf (a ++ b) := by
  apply ByteArray.ext
  simp [bytesOf]
theorem bytes_size (a : List UInt8) : (bytesOf a).size = a.length := by show a.toArray.size = _; rw [List.size_toArray]
set_option maxHeartbeats 2000000 in
set_option maxRecDepth 100000 in
theorem ref_putMembers (p : Option Addr) (n c : Nat) (l : List Int) (w : World) (h : RdI w w.heap.size p n l) (hn : n ≤ 100000) :
    Calls Tryz.prog 21 #[.slice p n c] w fun e w' => e = .returned (.string (bytesOf (memsL l))) ∧ Below w.heap.size w w' := by
  have HP := Lib.hid h
  have hl := h.1
  have HA := Lib.hid (ref_var (n : Int) w)
  have HL : Hid (bytesOf (memsL l) = bytesOf (varL (n : Int)) ++ bytesOf (varsL l)) := Lib.hid (by
    rw [bytes_app]
    unfold memsL
    rw [hl])
  have hs1 : (bytesOf (varL (n : Int))).size ≤ 10 := by rw [bytes_size]; exact (varL_len _).2
  have hs2 : (bytesOf (varsL l)).size ≤ 1000000 := by rw [bytes_size]; have := varsL_len l; omega
  clear h
  go_enter Tryz.func21, Tryz.ntmps21
  go_wp2_with fail
  with_reducible refine (HA.out).mono ?_
  rintro e w2 ⟨rfl, hb2⟩
  have HB2 := Lib.hid hb2
  have HC := Lib.hid (ref_vars p n c l w2 ((HP.out.below hb2).more hb2.size) hn)
  clear hb2
  go_wp2_with fail
  with_reducible refine (HC.out).mono ?_
  rintro e w3 ⟨rfl, hb3⟩
  have HB3 := Lib.hid (HB2.out.trans (hb3.mono HB2.out.size))
  clear hb3 HC
  have hsz : ¬ (9223372036854775807 < (bytesOf (varL (n : Int))).size + (bytesOf (varsL l)).size) := by omega
  go_wp2
  go_ret
  exact ⟨by rw [HL.out]; rfl, HB3.out⟩
end Go.Proofs.YtaodldagmmephaaGreat

/- Pieces of a function's code, by number. -/
namespace Go.Proofs.YtaodldagmmephaaGreat
/-- The block of a number in a function's code. -/
def blkOf2 (n : Nat) : Code → Option Code
  | .block id b => if id == n then some (.block id b) else blkOf2 n b
  | .seq a b => (blkOf2 n a).orElse fun _ => blkOf2 n b
  | .cond _ a b => (blkOf2 n a).orElse fun _ => blkOf2 n b
  | .loop b => blkOf2 n b
  | _ => none
theorem blk_body2 {o : Option Code} {n : Nat} {c : Code} (hc : o.bind (blkOf2 n) = some c) : ∃ d, o = some d ∧ blkOf2 n d = some c := by
  cases o with
  | none => cases hc
  | some d => exact ⟨d, rfl, hc⟩
def endsReg (n : Nat) : Code → Bool
  | .region id _ _ => id == n
  | _ => false
/-- What stands behind the region of a number. -/
def aftReg (n : Nat) : Code → Option Code
  | .seq a b => if endsReg n a then some b else (aftReg n a).orElse fun _ => aftReg n b
  | .block _ b => aftReg n b
  | .cond _ a b => (aftReg n a).orElse fun _ => aftReg n b
  | .loop b => aftReg n b
  | _ => none
theorem aft_body2 {o : Option Code} {n : Nat} {c : Code} (hc : o.bind (aftReg n) = some c) : ∃ d, o = some d ∧ aftReg n d = some c := by
  cases o with
  | none => cases hc
  | some d => exact ⟨d, rfl, hc⟩
def headReg (n : Nat) : Code → Bool
  | .region id _ _ => id == n
  | .seq a _ => headReg n a
  | _ => false
/-- What stands behind the statement (a test) that begins with the region of a number. -/
def aftTest (n : Nat) : Code → Option Code
  | .seq a b => match a with
    | .seq x (.cond _ _ _) => if headReg n x then some b else (aftTest n a).orElse fun _ => aftTest n b
    | _ => (aftTest n a).orElse fun _ => aftTest n b
  | .block _ b => aftTest n b
  | .cond _ a b => (aftTest n a).orElse fun _ => aftTest n b
  | .loop b => aftTest n b
  | _ => none
theorem aft_test {o : Option Code} {n : Nat} {c : Code} (hc : o.bind (aftTest n) = some c) : ∃ d, o = some d ∧ aftTest n d = some c := by
  cases o with
  | none => cases hc
  | some d => exact ⟨d, rfl, hc⟩
end Go.Proofs.YtaodldagmmephaaGreat

