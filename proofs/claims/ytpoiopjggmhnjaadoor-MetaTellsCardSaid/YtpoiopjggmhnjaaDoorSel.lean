/- Channels inside a walk: what a code comes to in a frame of an ordinary call; a region whose first operation is a select of one case with a default, or a send. No program in sight. -/
import Derived.Test.YtpoiopjggmhnjaaDoorRows
import Derived.WalkKit
import Derived.Conc.LoneSelect
import Derived.Conc.LoneSelectN
import Derived.Lib.Hide
namespace Go.Proofs.YtpoiopjggmhnjaaDoor
open Go.RowKit Go.Conc

/-- As the kit's 'wp', in frames of ordinary calls alone. -/
def WpN (P : Program) (c : Code) (Q : Exit → Act → World → Prop) (a : Act) (w : World) : Prop :=
  ∀ (b : Frame) (k : List Item) (cs : List Frame), b.kind = .normal → ∃ e a' w', Q e a' w' ∧ Arrives P (lone (b.at a (.code c :: k)) cs w) b k cs e a' w'

section
variable {P : Program} {Q : Exit → Act → World → Prop} {a : Act} {w : World}

theorem wpN_of {c : Code} (h : c.wp P Q a w) : WpN P c Q a w := fun b k cs _ => h b k cs

theorem wpN_seq {x y : Code} (h : WpN P x (Exit.then (WpN P y Q) Q) a w) : WpN P (Code.seq x y) Q a w := by
  intro b k cs hb
  obtain ⟨e, a1, w1, hq, harr⟩ := h b (.code y :: k) cs hb
  by_cases he : e = .normal
  · subst he
    obtain ⟨e2, a2, w2, hq2, harr2⟩ := hq b k cs hb
    exact ⟨e2, a2, w2, hq2, .of_steps (.head step_seq harr) harr2⟩
  · refine ⟨e, a1, w1, ?_, .of_steps (.one step_seq) (.pass (x := .code y) rfl (fun _ _ => .inl he) harr)⟩
    cases e <;> first | exact hq | exact absurd rfl he

theorem wpN_cond {c : Operand} {x y : Code} {t : Bool} (hc : a.eval c = .bool t) (h : WpN P (if t then x else y) Q a w) : WpN P (Code.cond c x y) Q a w :=
  fun b k cs hb => let ⟨e, a', w', q, r⟩ := h b k cs hb; ⟨e, a', w', q, .of_steps (.one (step_cond hc)) r⟩

theorem wpN_block {id : Nat} {c : Code} (h : WpN P c (Exit.inBlock id Q) a w) : WpN P (Code.block id c) Q a w := by
  intro b k cs hb
  obtain ⟨e, a1, w1, hq, harr⟩ := h b (.inBlock id :: k) cs hb
  cases e with
  | normal => exact ⟨.normal, a1, w1, hq, .head step_block (Steps.trans harr (.one step_inBlock))⟩
  | exit id' =>
    by_cases hid : id' = id
    · simp only [Exit.inBlock, hid, if_true] at hq
      exact ⟨.normal, a1, w1, hq, .head step_block (harr k (by simp [exitTo, hid]))⟩
    · simp only [Exit.inBlock, hid, if_false] at hq
      refine ⟨.exit id', a1, w1, hq, fun k' hk => .head step_block (harr k' ?_)⟩
      have : (id == id') = false := by simp; exact fun h => hid h.symm
      simp [exitTo, this, hk]
  | goto l => exact ⟨_, a1, w1, hq, fun k' hk => .head step_block (harr k' (by simp [gotoIn, hk]))⟩
  | ret => exact ⟨_, a1, w1, hq, .of_steps (.one step_block) harr⟩
  | panic ch => exact ⟨_, a1, w1, hq, .of_steps (.one step_block) harr⟩
  | outgrown => exact ⟨_, a1, w1, hq, .of_steps (b := b) (k := k) (cs := cs) (e := .outgrown) (.one step_block) harr⟩

theorem wpN_loop {c : Code} (I : Act → World → Prop) (mu : Act → World → Nat) (h0 : I a w)
    (round : ∀ a w, I a w → WpN P c (Exit.then (fun a' w' => I a' w' ∧ mu a' w' < mu a w) Q) a w) : WpN P (Code.loop c) Q a w := by
  intro b k cs hb
  have key : ∀ n a w, mu a w = n → I a w → ∃ e a' w', Q e a' w' ∧ Arrives P (lone (b.at a (.code c :: .inLoop c :: k)) cs w) b k cs e a' w' := by
    intro n
    induction n using Nat.strongRecOn with
    | _ n ih =>
      intro a w hn hI
      obtain ⟨e, a1, w1, hq, harr⟩ := round a w hI b (.inLoop c :: k) cs hb
      by_cases he : e = .normal
      · subst he
        obtain ⟨hI1, hlt⟩ := hq
        obtain ⟨e2, a2, w2, hq2, harr2⟩ := ih (mu a1 w1) (hn ▸ hlt) a1 w1 rfl hI1
        exact ⟨e2, a2, w2, hq2, .of_steps (Steps.trans harr (.one step_inLoop)) harr2⟩
      · refine ⟨e, a1, w1, ?_, .pass (x := .inLoop c) rfl (fun _ _ => .inl he) harr⟩
        cases e <;> first | exact hq | exact absurd rfl he
  obtain ⟨e, a', w', hq, harr⟩ := key _ a w rfl h0
  exact ⟨e, a', w', hq, .of_steps (.one step_loop) harr⟩

theorem calls_of_wpN {f : FuncId} {fn : Func} {c : Code} {args : Array Value} {R : Ending → World → Prop} (hf : P.funcs[f]? = some fn) (hb : fn.body = some c)
    (hno : ∀ w', ¬ R .outgrown w') (h : WpN P c (bodyPost P fn R) { tmps := args ++ Array.replicate (fn.ntmps - args.size) undef, defers := [] } w) : Calls P f args w R := by
  intro cs
  have henter : Frame.enter P f args .normal = (base f).at { tmps := args ++ Array.replicate (fn.ntmps - args.size) undef, defers := [] } [.code c] := by
    simp [Frame.enter, Frame.at, hf, hb, base]
  obtain ⟨e, a', w', hq, harr⟩ := h (base f) [] cs rfl
  rw [← henter] at harr
  cases e with
  | normal =>
    obtain ⟨hd, v, hr, hR⟩ := hq
    exact ⟨.returned v, w', _, hR, Steps.trans harr (.one step_end), rfl, rfl, hd, rfl, fn, hf, hr⟩
  | ret =>
    obtain ⟨hd, v, hr, hR⟩ := hq
    obtain ⟨todo, hs⟩ := harr
    exact ⟨.returned v, w', _, hR, hs, rfl, rfl, hd, rfl, fn, hf, hr⟩
  | panic chain =>
    obtain ⟨hd, hR⟩ := hq
    obtain ⟨todo, hs⟩ := harr
    exact ⟨.panicked chain, w', _, hR, hs, rfl, rfl, hd, fn, hf⟩
  | outgrown => exact absurd hq (hno w')
  | exit id => exact hq.elim
  | goto l => exact hq.elim

/-- A region whose first operation is a communication that the machine of one carries out in one step. -/
theorem wpN_comm {id : Nat} {o : Oper} {l : List Oper} (v : Value) (w1 : World)
    (hstep : ∀ (b : Frame) (k : List Item) (cs : List Frame), b.kind = .normal → ∀ rest, step P (lone (b.at a (.inRegion (o :: l).toArray (0 :: rest) :: k)) cs w) = .next (lone ((b.at a (.inRegion (o :: l).toArray (0 :: rest) :: k)).finish v) cs w1))
    (h : wpList P (o :: l).toArray Q l (a.put o.dst v) w1) : WpN P (Code.region id (o :: l).toArray false) Q a w := by
  intro b k cs hb
  have hr : List.range (o :: l).toArray.size = 0 :: List.range' 1 l.length := by
    rw [List.range_eq_range']
    simp [List.range'_succ]
  have h' : wpOps P (o :: l).toArray Q (List.range' 1 l.length) (a.put o.dst v) w1 := by
    rw [wpOps_eq_wpList l 1 (fun j => by simp [Nat.add_comm 1 j])]
    exact h
  obtain ⟨e, a', w', q, r⟩ := wp_ops _ _ _ h' b k cs
  refine ⟨e, a', w', q, .of_steps (.head step_region (.one ?_)) r⟩
  rw [hr, hstep b k cs hb, Frame.finish_at]
  rfl

section
variable {id : Nat} {d : Option Tmp} {x y : Operand} {e : TypeId} {ty : TypeId} {pos : String} {af : Array Edge} {l : List Oper} {c cap s r : Nat} {buf : Array Value} {z v : Value} {tm : Bool}

theorem wpN_sel_recv (hx : a.eval x = .chan (some c)) (hz : ∀ w, (zeroValue e).run P w = .ok z w) (hc : w.heap[c]? = some (.chan cap buf false s r tm)) (hs : 0 < buf.size)
    (h : wpList P (⟨d, .select #[{ chan := x, send := none, elem := e }] false, ty, pos, af, none⟩ :: l).toArray Q l (a.put d (.tuple #[goInt 0, .bool true, buf.getD 0 undef])) (w.setChan c cap (buf.extract 1 buf.size) false s (r + 1) tm)) :
    WpN P (Code.region id (⟨d, .select #[{ chan := x, send := none, elem := e }] false, ty, pos, af, none⟩ :: l).toArray false) Q a w :=
  wpN_comm _ _ (fun b k cs hb rest => step_lone_select_recv_buf (stepG_comm (cases := #[rcase c z]) (blocking := false) (shape := .select) (w' := w) rfl (by simp [Region.wanted]) (by rw [hb]; decide) (by simp [go_sem, execOp, rcase, hz]; simpa [go_sem, Act.eval] using hx)) hc hs) h

theorem wpN_sel_recv_default (hx : a.eval x = .chan (some c)) (hz : ∀ w, (zeroValue e).run P w = .ok z w) (hc : w.heap[c]? = some (.chan cap #[] false s r tm))
    (h : wpList P (⟨d, .select #[{ chan := x, send := none, elem := e }] false, ty, pos, af, none⟩ :: l).toArray Q l (a.put d (.tuple #[goInt (-1), .bool false, z])) w) :
    WpN P (Code.region id (⟨d, .select #[{ chan := x, send := none, elem := e }] false, ty, pos, af, none⟩ :: l).toArray false) Q a w :=
  wpN_comm _ _ (fun b k cs hb rest => step_lone_select_default (stepG_comm (cases := #[rcase c z]) (blocking := false) (shape := .select) (w' := w) rfl (by simp [Region.wanted]) (by rw [hb]; decide) (by simp [go_sem, execOp, rcase, hz]; simpa [go_sem, Act.eval] using hx)) hc) h

theorem wpN_sel_recv_nil (hx : a.eval x = .chan none) (hz : ∀ w, (zeroValue e).run P w = .ok z w)
    (h : wpList P (⟨d, .select #[{ chan := x, send := none, elem := e }] false, ty, pos, af, none⟩ :: l).toArray Q l (a.put d (.tuple #[goInt (-1), .bool false, z])) w) :
    WpN P (Code.region id (⟨d, .select #[{ chan := x, send := none, elem := e }] false, ty, pos, af, none⟩ :: l).toArray false) Q a w :=
  wpN_comm _ _ (fun b k cs hb rest => step_lone_select_recv_nil (stepG_comm (cases := #[rcaseNil z]) (blocking := false) (shape := .select) (w' := w) rfl (by simp [Region.wanted]) (by rw [hb]; decide) (by simp [go_sem, execOp, rcaseNil, hz]; simpa [go_sem, Act.eval] using hx))) h

theorem wpN_sel_send (hx : a.eval x = .chan (some c)) (hy : a.eval y = v) (hz : ∀ w, (zeroValue e).run P w = .ok z w) (hc : w.heap[c]? = some (.chan cap buf false s r tm)) (hs : buf.size < cap)
    (h : wpList P (⟨d, .select #[{ chan := x, send := some y, elem := e }] false, ty, pos, af, none⟩ :: l).toArray Q l (a.put d (.tuple #[goInt 0, .bool false])) (w.setChan c cap (buf.push v) false (s + 1) r tm)) :
    WpN P (Code.region id (⟨d, .select #[{ chan := x, send := some y, elem := e }] false, ty, pos, af, none⟩ :: l).toArray false) Q a w :=
  wpN_comm _ _ (fun b k cs hb rest => step_lone_select_send_room (stepG_comm (cases := #[scase c v z]) (blocking := false) (shape := .select) (w' := w) rfl (by simp [Region.wanted]) (by rw [hb]; decide) (by simp [go_sem, execOp, scase, hz]; exact ⟨by simpa [go_sem, Act.eval] using hx, by simpa [go_sem, Act.eval] using hy⟩)) hc hs) h

theorem wpN_sel_send_full (hx : a.eval x = .chan (some c)) (hy : a.eval y = v) (hz : ∀ w, (zeroValue e).run P w = .ok z w) (hc : w.heap[c]? = some (.chan cap buf false s r tm)) (hs : cap ≤ buf.size)
    (h : wpList P (⟨d, .select #[{ chan := x, send := some y, elem := e }] false, ty, pos, af, none⟩ :: l).toArray Q l (a.put d (.tuple #[goInt (-1), .bool false])) w) :
    WpN P (Code.region id (⟨d, .select #[{ chan := x, send := some y, elem := e }] false, ty, pos, af, none⟩ :: l).toArray false) Q a w :=
  wpN_comm _ _ (fun b k cs hb rest => step_lone_select_send_full (stepG_comm (cases := #[scase c v z]) (blocking := false) (shape := .select) (w' := w) rfl (by simp [Region.wanted]) (by rw [hb]; decide) (by simp [go_sem, execOp, scase, hz]; exact ⟨by simpa [go_sem, Act.eval] using hx, by simpa [go_sem, Act.eval] using hy⟩)) hc hs) h

theorem wpN_sel_send_nil (hx : a.eval x = .chan none) (hy : a.eval y = v) (hz : ∀ w, (zeroValue e).run P w = .ok z w)
    (h : wpList P (⟨d, .select #[{ chan := x, send := some y, elem := e }] false, ty, pos, af, none⟩ :: l).toArray Q l (a.put d (.tuple #[goInt (-1), .bool false])) w) :
    WpN P (Code.region id (⟨d, .select #[{ chan := x, send := some y, elem := e }] false, ty, pos, af, none⟩ :: l).toArray false) Q a w :=
  wpN_comm _ _ (fun b k cs hb rest => step_lone_select_send_nil (stepG_comm (cases := #[scaseNil v z]) (blocking := false) (shape := .select) (w' := w) rfl (by simp [Region.wanted]) (by rw [hb]; decide) (by simp [go_sem, execOp, scaseNil, hz]; exact ⟨by simpa [go_sem, Act.eval] using hx, by simpa [go_sem, Act.eval] using hy⟩))) h

theorem step_val {b : Frame} {k : List Item} {cs : List Frame} {ops : Array Oper} {i : Nat} {rest : List Nat} {o : Oper} {u : Value} {w1 : World} (ho : ops[i]? = some o) (hw : Region.wanted o (yielded ops a.tmps) = true) (hr : (execOp a.eval o).run P w = .ok (.value u) w1) :
    step P (lone (b.at a (.inRegion ops (i :: rest) :: k)) cs w) = .next (lone (b.at (a.put o.dst u) (.inRegion ops rest :: k)) cs w1) := by
  have hfin : (b.at a (.inRegion ops (i :: rest) :: k)).finish u = b.at (a.put o.dst u) (.inRegion ops rest :: k) := by rw [Frame.finish_at, ho]; rfl
  rw [← hfin]
  exact step_lone_go (by rw [stepG_op ho hw]; simp [stepG.apply, hr])

/-- 'c <- x' where there is room, the two operands ahead of it. -/
theorem wpN_send {o0 o1 o2 : Oper} {v0 v1 : Value} (g0 : o0.guard = none) (g1 : o1.guard = none) (g2 : o2.guard = none) (h0 : (execOp a.eval o0).run P w = .ok (.value v0) w) (h1 : (execOp (a.put o0.dst v0).eval o1).run P w = .ok (.value v1) w)
    (h2 : (execOp ((a.put o0.dst v0).put o1.dst v1).eval o2).run P w = .ok (.comm #[scase c v z] true .send) w) (hc : w.heap[c]? = some (.chan cap buf false s r tm)) (hs : buf.size < cap)
    (hq : Q .normal (((a.put o0.dst v0).put o1.dst v1).put o2.dst undef) (w.setChan c cap (buf.push v) false (s + 1) r tm)) : WpN P (Code.region id #[o0, o1, o2] false) Q a w := by
  intro b k cs hb
  refine ⟨.normal, _, _, hq, ?_⟩
  have s0 := step_val (P := P) (b := b) (k := k) (cs := cs) (ops := #[o0, o1, o2]) (i := 0) (rest := [1, 2]) (o := o0) (a := a) (w := w) rfl (by simp [Region.wanted, g0]) h0
  have s1 := step_val (P := P) (b := b) (k := k) (cs := cs) (ops := #[o0, o1, o2]) (i := 1) (rest := [2]) (o := o1) (a := a.put o0.dst v0) (w := w) rfl (by simp [Region.wanted, g1]) h1
  have s2 := step_lone_send_room (P := P) (fr := b.at ((a.put o0.dst v0).put o1.dst v1) (.inRegion #[o0, o1, o2] [2] :: k)) (cs := cs) (stepG_comm (cases := #[scase c v z]) (blocking := true) (shape := .send) (w' := w) rfl (by simp [Region.wanted, g2]) (by rw [hb]; decide) h2) hc hs
  rw [Frame.finish_at] at s2
  exact .head step_region (.head s0 (.head s1 (.head s2 (.one step_region_end))))
end
end
end Go.Proofs.YtpoiopjggmhnjaaDoor
