/- Merged texts: Sel Drain Put Dev DevI. -/
import Derived.Test.YtlocadmiomglaaaGreatDoorRows
import Derived.WalkKit
import Derived.Conc.LoneSelect
import Derived.Conc.LoneSelectN
import Derived.Lib.Hide
import Derived.Test.YtlocadmiomglaaaGreatDoorB1
import Derived.Deep.AppendLies
import Derived.Deep.RegionLaw
import Derived.BigRegion
import Derived.Deep.QuietTactic
import Derived.BigQuiet
/- Channels inside a walk: what a code comes to in a frame of an ordinary call; a region whose first operation is a select of one case with a default, or a send. No program in sight. -/
namespace Go.Proofs.YtlocadmiomglaaaGreatDoor
open Go.RowKit Go.Conc

/-- As the kit's 'wp', in frames of ordinary calls alone. -/
def WpN (P : Program) (c : Code) (Q : Exit → Act → World → Prop) (a : Act) (w : World) : Prop :=
  ∀ (b : Frame) (k : List Item) (cs : List Frame), b.kind = .normal → ∃ e a' w', Q e a' w' ∧ Arrives P (lone (b.at a (.code c :: k)) cs w) b k cs e a' w'

section
variable {P : Program} {Q : Exit → Act → World → Prop} {a : Act} {w : World}

theorem wpN_of {c : Code} (h : c.wp P Q a w) : WpN P c Q a w := fun b k cs _ => h b k cs

theorem wpN_seq {x y : Code} (h : WpN P x (Exit.then (WpN P y Q) Q) a w) : WpN P (Code.seq x y) Q a w := by
  intro b k cs hb
  obtain ⟨e, a1, w1, hq, harr⟩ := h b (.code y :: k) cs hb
  by_cases he : e = .normal
  · subst he
    obtain ⟨e2, a2, w2, hq2, harr2⟩ := hq b k cs hb
    exact ⟨e2, a2, w2, hq2, .of_steps (.head step_seq harr) harr2⟩
  · refine ⟨e, a1, w1, ?_, .of_steps (.one step_seq) (.pass (x := .code y) rfl (fun _ _ => .inl he) harr)⟩
    cases e <;> first | exact hq | exact absurd rfl he

theorem wpN_cond {c : Operand} {x y : Code} {t : Bool} (hc : a.eval c = .bool t) (h : WpN P (if t then x else y) Q a w) : WpN P (Code.cond c x y) Q a w :=
  fun b k cs hb => let ⟨e, a', w', q, r⟩ := h b k cs hb; ⟨e, a', w', q, .of_steps (.one (step_cond hc)) r⟩

theorem wpN_block {id : Nat} {c : Code} (h : WpN P c (Exit.inBlock id Q) a w) : WpN P (Code.block id c) Q a w := by
  intro b k cs hb
  obtain ⟨e, a1, w1, hq, harr⟩ := h b (.inBlock id :: k) cs hb
  cases e with
  | normal => exact ⟨.normal, a1, w1, hq, .head step_block (Steps.trans harr (.one step_inBlock))⟩
  | exit id' =>
    by_cases hid : id' = id
    · simp only [Exit.inBlock, hid, if_true] at hq
      exact ⟨.normal, a1, w1, hq, .head step_block (harr k (by simp [exitTo, hid]))⟩
    · simp only [Exit.inBlock, hid, if_false] at hq
      refine ⟨.exit id', a1, w1, hq, fun k' hk => .head step_block (harr k' ?_)⟩
      have : (id == id') = false := by simp; exact fun h => hid h.symm
      simp [exitTo, this, hk]
  | goto l => exact ⟨_, a1, w1, hq, fun k' hk => .head step_block (harr k' (by simp [gotoIn, hk]))⟩
  | ret => exact ⟨_, a1, w1, hq, .of_steps (.one step_block) harr⟩
  | panic ch => exact ⟨_, a1, w1, hq, .of_steps (.one step_block) harr⟩
  | outgrown => exact ⟨_, a1, w1, hq, .of_steps (b := b) (k := k) (cs := cs) (e := .outgrown) (.one step_block) harr⟩

theorem wpN_loop {c : Code} (I : Act → World → Prop) (mu : Act → World → Nat) (h0 : I a w)
    (round : ∀ a w, I a w → WpN P c (Exit.then (fun a' w' => I a' w' ∧ mu a' w' < mu a w) Q) a w) : WpN P (Code.loop c) Q a w := by
  intro b k cs hb
  have key : ∀ n a w, mu a w = n → I a w → ∃ e a' w', Q e a' w' ∧ Arrives P (lone (b.at a (.code c :: .inLoop c :: k)) cs w) b k cs e a' w' := by
    intro n
    induction n using Nat.strongRecOn with
    | _ n ih =>
      intro a w hn hI
      obtain ⟨e, a1, w1, hq, harr⟩ := round a w hI b (.inLoop c :: k) cs hb
      by_cases he : e = .normal
      · subst he
        obtain ⟨hI1, hlt⟩ := hq
        obtain ⟨e2, a2, w2, hq2, harr2⟩ := ih (mu a1 w1) (hn ▸ hlt) a1 w1 rfl hI1
        exact ⟨e2, a2, w2, hq2, .of_steps (Steps.trans harr (.one step_inLoop)) harr2⟩
      · refine ⟨e, a1, w1, ?_, .pass (x := .inLoop c) rfl (fun _ _ => .inl he) harr⟩
        cases e <;> first | exact hq | exact absurd rfl he
  obtain ⟨e, a', w', hq, harr⟩ := key _ a w rfl h0
  exact ⟨e, a', w', hq, .of_steps (.one step_loop) harr⟩

theorem calls_of_wpN {f : FuncId} {fn : Func} {c : Code} {args : Array Value} {R : Ending → World → Prop} (hf : P.funcs[f]? = some fn) (hb : fn.body = some c)
    (hno : ∀ w', ¬ R .outgrown w') (h : WpN P c (bodyPost P fn R) { tmps := args ++ Array.replicate (fn.ntmps - args.size) undef, defers := [] } w) : Calls P f args w R := by
  intro cs
  have henter : Frame.enter P f args .normal = (base f).at { tmps := args ++ Array.replicate (fn.ntmps - args.size) undef, defers := [] } [.code c] := by
    simp [Frame.enter, Frame.at, hf, hb, base]
  obtain ⟨e, a', w', hq, harr⟩ := h (base f) [] cs rfl
  rw [← henter] at harr
  cases e with
  | normal =>
    obtain ⟨hd, v, hr, hR⟩ := hq
    exact ⟨.returned v, w', _, hR, Steps.trans harr (.one step_end), rfl, rfl, hd, rfl, fn, hf, hr⟩
  | ret =>
    obtain ⟨hd, v, hr, hR⟩ := hq
    obtain ⟨todo, hs⟩ := harr
    exact ⟨.returned v, w', _, hR, hs, rfl, rfl, hd, rfl, fn, hf, hr⟩
  | panic chain =>
    obtain ⟨hd, hR⟩ := hq
    obtain ⟨todo, hs⟩ := harr
    exact ⟨.panicked chain, w', _, hR, hs, rfl, rfl, hd, fn, hf⟩
  | outgrown => exact absurd hq (hno w')
  | exit id => exact hq.elim
  | goto l => exact hq.elim

/-- A region whose first operation is a communication that the machine of one carries out in one step. -/
theorem wpN_comm {id : Nat} {o : Oper} {l : List Oper} (v : Value) (w1 : World)
    (hstep : ∀ (b : Frame) (k : List Item) (cs : List Frame), b.kind = .normal → ∀ rest, step P (lone (b.at a (.inRegion (o :: l).toArray (0 :: rest) :: k)) cs w) = .next (lone ((b.at a (.inRegion (o :: l).toArray (0 :: rest) :: k)).finish v) cs w1))
    (h : wpList P (o :: l).toArray Q l (a.put o.dst v) w1) : WpN P (Code.region id (o :: l).toArray false) Q a w := by
  intro b k cs hb
  have hr : List.range (o :: l).toArray.size = 0 :: List.range' 1 l.length := by
    rw [List.range_eq_range']
    simp [List.range'_succ]
  have h' : wpOps P (o :: l).toArray Q (List.range' 1 l.length) (a.put o.dst v) w1 := by
    rw [wpOps_eq_wpList l 1 (fun j => by simp [Nat.add_comm 1 j])]
    exact h
  obtain ⟨e, a', w', q, r⟩ := wp_ops _ _ _ h' b k cs
  refine ⟨e, a', w', q, .of_steps (.head step_region (.one ?_)) r⟩
  rw [hr, hstep b k cs hb, Frame.finish_at]
  rfl

section
variable {id : Nat} {d : Option Tmp} {x y : Operand} {e : TypeId} {ty : TypeId} {pos : String} {af : Array Edge} {l : List Oper} {c cap s r : Nat} {buf : Array Value} {z v : Value} {tm : Bool}

theorem wpN_sel_recv (hx : a.eval x = .chan (some c)) (hz : ∀ w, (zeroValue e).run P w = .ok z w) (hc : w.heap[c]? = some (.chan cap buf false s r tm)) (hs : 0 < buf.size)
    (h : wpList P (⟨d, .select #[{ chan := x, send := none, elem := e }] false, ty, pos, af, none⟩ :: l).toArray Q l (a.put d (.tuple #[goInt 0, .bool true, buf.getD 0 undef])) (w.setChan c cap (buf.extract 1 buf.size) false s (r + 1) tm)) :
    WpN P (Code.region id (⟨d, .select #[{ chan := x, send := none, elem := e }] false, ty, pos, af, none⟩ :: l).toArray false) Q a w :=
  wpN_comm _ _ (fun b k cs hb rest => step_lone_select_recv_buf (stepG_comm (cases := #[rcase c z]) (blocking := false) (shape := .select) (w' := w) rfl (by simp [Region.wanted]) (by rw [hb]; decide) (by simp [go_sem, execOp, rcase, hz]; simpa [go_sem, Act.eval] using hx)) hc hs) h

theorem wpN_sel_recv_default (hx : a.eval x = .chan (some c)) (hz : ∀ w, (zeroValue e).run P w = .ok z w) (hc : w.heap[c]? = some (.chan cap #[] false s r tm))
    (h : wpList P (⟨d, .select #[{ chan := x, send := none, elem := e }] false, ty, pos, af, none⟩ :: l).toArray Q l (a.put d (.tuple #[goInt (-1), .bool false, z])) w) :
    WpN P (Code.region id (⟨d, .select #[{ chan := x, send := none, elem := e }] false, ty, pos, af, none⟩ :: l).toArray false) Q a w :=
  wpN_comm _ _ (fun b k cs hb rest => step_lone_select_default (stepG_comm (cases := #[rcase c z]) (blocking := false) (shape := .select) (w' := w) rfl (by simp [Region.wanted]) (by rw [hb]; decide) (by simp [go_sem, execOp, rcase, hz]; simpa [go_sem, Act.eval] using hx)) hc) h

theorem wpN_sel_recv_nil (hx : a.eval x = .chan none) (hz : ∀ w, (zeroValue e).run P w = .ok z w)
    (h : wpList P (⟨d, .select #[{ chan := x, send := none, elem := e }] false, ty, pos, af, none⟩ :: l).toArray Q l (a.put d (.tuple #[goInt (-1), .bool false, z])) w) :
    WpN P (Code.region id (⟨d, .select #[{ chan := x, send := none, elem := e }] false, ty, pos, af, none⟩ :: l).toArray false) Q a w :=
  wpN_comm _ _ (fun b k cs hb rest => step_lone_select_recv_nil (stepG_comm (cases := #[rcaseNil z]) (blocking := false) (shape := .select) (w' := w) rfl (by simp [Region.wanted]) (by rw [hb]; decide) (by simp [go_sem, execOp, rcaseNil, hz]; simpa [go_sem, Act.eval] using hx))) h

theorem wpN_sel_send (hx : a.eval x = .chan (some c)) (hy : a.eval y = v) (hz : ∀ w, (zeroValue e).run P w = .ok z w) (hc : w.heap[c]? = some (.chan cap buf false s r tm)) (hs : buf.size < cap)
    (h : wpList P (⟨d, .select #[{ chan := x, send := some y, elem := e }] false, ty, pos, af, none⟩ :: l).toArray Q l (a.put d (.tuple #[goInt 0, .bool false])) (w.setChan c cap (buf.push v) false (s + 1) r tm)) :
    WpN P (Code.region id (⟨d, .select #[{ chan := x, send := some y, elem := e }] false, ty, pos, af, none⟩ :: l).toArray false) Q a w :=
  wpN_comm _ _ (fun b k cs hb rest => step_lone_select_send_room (stepG_comm (cases := #[scase c v z]) (blocking := false) (shape := .select) (w' := w) rfl (by simp [Region.wanted]) (by rw [hb]; decide) (by simp [go_sem, execOp, scase, hz]; exact ⟨by simpa [go_sem, Act.eval] using hx, by simpa [go_sem, Act.eval] using hy⟩)) hc hs) h

theorem wpN_sel_send_full (hx : a.eval x = .chan (some c)) (hy : a.eval y = v) (hz : ∀ w, (zeroValue e).run P w = .ok z w) (hc : w.heap[c]? = some (.chan cap buf false s r tm)) (hs : cap ≤ buf.size)
    (h : wpList P (⟨d, .select #[{ chan := x, send := some y, elem := e }] false, ty, pos, af, none⟩ :: l).toArray Q l (a.put d (.tuple #[goInt (-1), .bool false])) w) :
    WpN P (Code.region id (⟨d, .select #[{ chan := x, send := some y, elem := e }] false, ty, pos, af, none⟩ :: l).toArray false) Q a w :=
  wpN_comm _ _ (fun b k cs hb rest => step_lone_select_send_full (stepG_comm (cases := #[scase c v z]) (blocking := false) (shape := .select) (w' := w) rfl (by simp [Region.wanted]) (by rw [hb]; decide) (by simp [go_sem, execOp, scase, hz]; exact ⟨by simpa [go_sem, Act.eval] using hx, by simpa [go_sem, Act.eval] using hy⟩)) hc hs) h

theorem wpN_sel_send_nil (hx : a.eval x = .chan none) (hy : a.eval y = v) (hz : ∀ w, (zeroValue e).run P w = .ok z w)
    (h : wpList P (⟨d, .select #[{ chan := x, send := some y, elem := e }] false, ty, pos, af, none⟩ :: l).toArray Q l (a.put d (.tuple #[goInt (-1), .bool false])) w) :
    WpN P (Code.region id (⟨d, .select #[{ chan := x, send := some y, elem := e }] false, ty, pos, af, none⟩ :: l).toArray false) Q a w :=
  wpN_comm _ _ (fun b k cs hb rest => step_lone_select_send_nil (stepG_comm (cases := #[scaseNil v z]) (blocking := false) (shape := .select) (w' := w) rfl (by simp [Region.wanted]) (by rw [hb]; decide) (by simp [go_sem, execOp, scaseNil, hz]; exact ⟨by simpa [go_sem, Act.eval] using hx, by simpa [go_sem, Act.eval] using hy⟩))) h

theorem step_val {b : Frame} {k : List Item} {cs : List Frame} {ops : Array Oper} {i : Nat} {rest : List Nat} {o : Oper} {u : Value} {w1 : World} (ho : ops[i]? = some o) (hw : Region.wanted o (yielded ops a.tmps) = true) (hr : (execOp a.eval o).run P w = .ok (.value u) w1) :
    step P (lone (b.at a (.inRegion ops (i :: rest) :: k)) cs w) = .next (lone (b.at (a.put o.dst u) (.inRegion ops rest :: k)) cs w1) := by
  have hfin : (b.at a (.inRegion ops (i :: rest) :: k)).finish u = b.at (a.put o.dst u) (.inRegion ops rest :: k) := by rw [Frame.finish_at, ho]; rfl
  rw [← hfin]
  exact step_lone_go (by rw [stepG_op ho hw]; simp [stepG.apply, hr])

/-- 'c <- x' where there is room, the two operands ahead of it. -/
theorem wpN_send {o0 o1 o2 : Oper} {v0 v1 : Value} (g0 : o0.guard = none) (g1 : o1.guard = none) (g2 : o2.guard = none) (h0 : (execOp a.eval o0).run P w = .ok (.value v0) w) (h1 : (execOp (a.put o0.dst v0).eval o1).run P w = .ok (.value v1) w)
    (h2 : (execOp ((a.put o0.dst v0).put o1.dst v1).eval o2).run P w = .ok (.comm #[scase c v z] true .send) w) (hc : w.heap[c]? = some (.chan cap buf false s r tm)) (hs : buf.size < cap)
    (hq : Q .normal (((a.put o0.dst v0).put o1.dst v1).put o2.dst undef) (w.setChan c cap (buf.push v) false (s + 1) r tm)) : WpN P (Code.region id #[o0, o1, o2] false) Q a w := by
  intro b k cs hb
  refine ⟨.normal, _, _, hq, ?_⟩
  have s0 := step_val (P := P) (b := b) (k := k) (cs := cs) (ops := #[o0, o1, o2]) (i := 0) (rest := [1, 2]) (o := o0) (a := a) (w := w) rfl (by simp [Region.wanted, g0]) h0
  have s1 := step_val (P := P) (b := b) (k := k) (cs := cs) (ops := #[o0, o1, o2]) (i := 1) (rest := [2]) (o := o1) (a := a.put o0.dst v0) (w := w) rfl (by simp [Region.wanted, g1]) h1
  have s2 := step_lone_send_room (P := P) (fr := b.at ((a.put o0.dst v0).put o1.dst v1) (.inRegion #[o0, o1, o2] [2] :: k)) (cs := cs) (stepG_comm (cases := #[scase c v z]) (blocking := true) (shape := .send) (w' := w) rfl (by simp [Region.wanted, g2]) (by rw [hb]; decide) h2) hc hs
  rw [Frame.finish_at] at s2
  exact .head step_region (.head s0 (.head s1 (.head s2 (.one step_region_end))))
end
end
end Go.Proofs.YtlocadmiomglaaaGreatDoor

/- dev: drain takes all that waits; put lets a write wait. -/
namespace Go.Proofs.YtlocadmiomglaaaGreatDoor
open Go.RowKit Go.Conc

abbrev Wr := Int × ByteArray
def wcells (x : Wr) : List Value := [.int .i64 x.1, .string x.2]
theorem wcells_length (x : Wr) : (wcells x).length = 2 := rfl
def encW (x : Wr) : Value := .agg #[.int .i64 x.1, .string x.2]
def chanOf (cap s r : Nat) (ws : List Wr) : Obj := .chan cap (ws.map encW).toArray false s r false
def chanLen (w : World) (c : Nat) : Nat := match w.heap[c]? with | some (.chan _ buf _ _ _ _) => buf.size | _ => 0

theorem zero_write : ∀ w, (zeroValue 335).run Tryz.prog w = .ok (.agg #[.int .i64 0, .string ByteArray.empty]) w := Tryz.zeroValue335


theorem setChan_other (w : World) (c c' cap : Nat) (buf : Array Value) (closed : Bool) (s r : Nat) (tm : Bool) (h : c ≠ c') : (w.setChan c cap buf closed s r tm).heap[c']? = w.heap[c']? := by
  simp [World.setChan, Array.getElem?_setIfInBounds_ne h]

theorem Fr.setChan {S : Nat → Prop} {w w1 : World} (h : Fr S w w1) {c : Nat} (hc : c < w.heap.size → S c) (cap : Nat) (buf : Array Value) (cl : Bool) (s r : Nat) (tm : Bool) : Fr S w (w1.setChan c cap buf cl s r tm) :=
  ⟨h.os, h.tape, h.output, by rw [size_setChan]; exact h.size, fun i hi hs => (setChan_other w1 c i cap buf cl s r tm (by rintro rfl; exact hs (hc hi))).trans (h.block i hi hs)⟩

theorem info_write : (Tryz.prog.info? 335).map (fun i => (i.zero, i.size, i.bytes)) = some (some (.agg #[.int .i64 0, .string ByteArray.empty]), 2, 24) := by kernel_rfl

theorem extract_tail (x : Wr) (l : List Wr) : ((x :: l).map encW).toArray.extract 1 ((x :: l).map encW).toArray.size = (l.map encW).toArray := by
  simp [List.take_of_length_le]

/-- Between two rounds of drain. -/
def DrainRel (w : World) (c cap s r : Nat) (ws dn rest : List Wr) (ov : Value) (wr : World) : Prop :=
  ws = dn ++ rest ∧ wr.ownsRow w.heap.size 335 2 ov dn.length (rowOf wcells dn) ∧ wr.heap[c]? = some (chanOf cap s (r + dn.length) rest) ∧ Fr (fun k => k = c) w wr

theorem chanLen_of {w : World} {c cap s r : Nat} {ws : List Wr} (h : w.heap[c]? = some (chanOf cap s r ws)) : chanLen w c = ws.length := by
  unfold chanLen
  rw [h]
  simp [chanOf]

end Go.Proofs.YtlocadmiomglaaaGreatDoor

/- dev: put lets a write wait. (Printed by gen-put.py.) -/
namespace Go.Proofs.YtlocadmiomglaaaGreatDoor
open Go.RowKit Go.Conc

/-- What waits: nothing, or what a channel's buffer holds. -/
def ChanI (w : World) (cv : Value) (ws : List Wr) : Prop :=
  (cv = .chan none ∧ ws = []) ∨ ∃ c cap s r, cv = .chan (some c) ∧ w.heap[c]? = some (chanOf cap s r ws) ∧ ws.length ≤ cap ∧ cap ≤ 10000

/-- Is there room in what waits? 0: yes. -/
def roomOf (db : Nat) (w : World) : Nat :=
  match w.cell? ⟨db, 6, none⟩ with
  | some (.chan (some c)) => (match w.heap[c]? with | some (.chan cap buf _ _ _ _) => if buf.size < cap then 0 else 1 | _ => 1)
  | _ => 1

structure PutI (db B : Nat) (cv0 : Value) (x : Wr) (ws : List Wr) (w : World) (cv : Value) (wr : World) : Prop where
  cell : wr.cell? ⟨db, 6, none⟩ = some cv
  frz : wr.frozen? ⟨db, 6, none⟩ = false
  chan : ChanI wr cv ws
  b0 : wr.cell? ⟨B, 0, none⟩ = some (.int .i64 x.1)
  b1 : wr.cell? ⟨B, 1, none⟩ = some (.string x.2)
  fr : Fr (fun k => k = db ∨ cv0 = .chan (some k)) w wr
  oth : Others db 6 w wr
  from' : cv = cv0 ∨ ∃ c, cv = .chan (some c) ∧ w.heap.size ≤ c

/-- What put leaves. -/
def PutPost (db : Nat) (cv0 : Value) (x : Wr) (ws : List Wr) (w : World) (e : Ending) (w' : World) : Prop :=
  e = .returned (.tuple #[]) ∧ ∃ c cap s r, w'.cell? ⟨db, 6, none⟩ = some (.chan (some c)) ∧ w'.frozen? ⟨db, 6, none⟩ = false ∧ w'.heap[c]? = some (chanOf cap s r (ws ++ [x])) ∧ (ws ++ [x]).length ≤ cap ∧ cap ≤ 10000 ∧
    (cv0 = .chan (some c) ∨ w.heap.size ≤ c) ∧ Fr (fun k => k = db ∨ cv0 = .chan (some k)) w w' ∧ Others db 6 w w'

theorem cell_setChan {w : World} {c cap : Nat} {buf : Array Value} {cl : Bool} {s r : Nat} {tm : Bool} {p : Addr} (h : p.block ≠ c) : (w.setChan c cap buf cl s r tm).cell? p = w.cell? p := World.cell?_of_block (setChan_other w c p.block cap buf cl s r tm (fun e => h e.symm))
theorem frozen_setChan {w : World} {c cap : Nat} {buf : Array Value} {cl : Bool} {s r : Nat} {tm : Bool} {p : Addr} (h : p.block ≠ c) : (w.setChan c cap buf cl s r tm).frozen? p = w.frozen? p := World.frozen?_of_block (setChan_other w c p.block cap buf cl s r tm (fun e => h e.symm))

theorem not_chan {w : World} {b o c cap s r : Nat} {ws : List Wr} {v : Value} (h : w.cell? ⟨b, o, none⟩ = some v) (hc : w.heap[c]? = some (chanOf cap s r ws)) : b ≠ c := by
  rintro rfl
  unfold World.cell? at h
  simp only at h
  rw [hc] at h
  simp [chanOf] at h

theorem add_at0 (b j : Nat) : (⟨b, 0, none⟩ : Addr).add j = ⟨b, j, none⟩ := by
  unfold Addr.add
  split
  · rename_i h; rw [h]
  · rw [Nat.zero_add]

theorem push_chan {l : List Wr} {x : Wr} : (l.map encW).toArray.push (encW x) = ((l ++ [x]).map encW).toArray := by simp


theorem bytes_write : ∃ i, Tryz.prog.info? 335 = some i ∧ i.bytes = 24 := by
  obtain ⟨i0, hi0, hz0, hz1, hz2⟩ := info_parts info_write
  exact ⟨i0, hi0, hz2⟩

theorem make_chan (n : Nat) (hn : n ≤ 100000) (w : World) : (Instr.makeChan 161 (.int .i64 n)).run Tryz.prog w = .ok (.chan (some w.heap.size)) (w.alloc (chanOf n 0 0 [])) := by
  obtain ⟨i, hi, hb⟩ := bytes_write
  simpa [chanOf] using run_makeChan (P := Tryz.prog) (w := w) Tryz.underlying161 hi .i64 n (by omega) (by rw [hb]; omega)

theorem roomOf_zero {db C cap s r : Nat} {ws : List Wr} {w : World} (h : w.cell? ⟨db, 6, none⟩ = some (.chan (some C))) (hc : w.heap[C]? = some (chanOf cap s r ws)) (hr : ws.length < cap) : roomOf db w = 0 := by
  unfold roomOf
  rw [h]
  simp only [hc, chanOf]
  simp [hr]
theorem roomOf_full {db c s r : Nat} {ws : List Wr} {w : World} (h : w.cell? ⟨db, 6, none⟩ = some (.chan (some c))) (hc : w.heap[c]? = some (chanOf ws.length s r ws)) : roomOf db w = 1 := by
  unfold roomOf
  rw [h]
  simp only [hc, chanOf]
  simp
theorem roomOf_nil {db : Nat} {w : World} (h : w.cell? ⟨db, 6, none⟩ = some (.chan none)) : roomOf db w = 1 := by
  unfold roomOf
  rw [h]

/-- Behind the store of the new channel. -/
theorem put_next {db : Nat} {cv0 CV : Value} {x : Wr} {ws : List Wr} {w wr W2 w3 w4 : World} {M i : Nat} (hI : PutI db w.heap.size cv0 x ws w CV wr) (hdl : db < w.heap.size) (hBl : w.heap.size < wr.heap.size)
    (hbl : ∀ k, k < wr.heap.size → W2.heap[k]? = wr.heap[k]?) (hs2 : W2.heap.size = wr.heap.size + 1) (hos : W2.os = wr.os ∧ W2.tape = wr.tape ∧ W2.output = wr.output) (hF3 : Fr (fun k => CV = .chan (some k)) W2 w3) (hF4 : Fr (fun k => k = wr.heap.size) w3 w4)
    (hdb : CV ≠ .chan (some db)) (hB : CV ≠ .chan (some w.heap.size)) (hc4 : w4.heap[wr.heap.size]? = some (chanOf M i 0 (ws.take i))) (hi : i = ws.length) (hM : ws.length < M) (hM2 : M ≤ 10000) :
    PutI db w.heap.size cv0 x ws w (.chan (some wr.heap.size)) (w4.setCell ⟨db, 6, none⟩ (.chan (some wr.heap.size))) ∧ roomOf db (w4.setCell ⟨db, 6, none⟩ (.chan (some wr.heap.size))) = 0 := by
  have hsz := hI.fr.size
  have hs3 := hF3.size
  have blk : ∀ k, k < wr.heap.size → CV ≠ .chan (some k) → w4.heap[k]? = wr.heap[k]? := fun k hk hne =>
    (hF4.block k (by omega) (by show ¬ k = wr.heap.size; omega)).trans ((hF3.block k (by omega) hne).trans (hbl k hk))
  have bdb := blk db (by omega) hdb
  have bB := blk w.heap.size hBl hB
  have hcell4 : w4.cell? ⟨db, 6, none⟩ = some CV := (World.cell?_of_block bdb).trans hI.cell
  have hch : (w4.setCell ⟨db, 6, none⟩ (.chan (some wr.heap.size))).heap[wr.heap.size]? = some (chanOf M i 0 ws) := by
    rw [Below.heap_setCell w4 ⟨db, 6, none⟩ _ wr.heap.size (by show wr.heap.size ≠ db; omega), hc4, hi, List.take_length]
  have hcellN := cell_set_same w4 ⟨db, 6, none⟩ (.chan (some wr.heap.size)) CV hcell4
  have bother : ∀ o, (w4.setCell ⟨db, 6, none⟩ (.chan (some wr.heap.size))).cell? ⟨w.heap.size, o, none⟩ = wr.cell? ⟨w.heap.size, o, none⟩ := fun o =>
    (World.cell?_setCell_other _ _ _ _ (by intro e; injection e with e; omega)).trans (World.cell?_of_block bB)
  have hFr : Fr (fun k => k = db ∨ cv0 = .chan (some k)) w (w4.setCell ⟨db, 6, none⟩ (.chan (some wr.heap.size))) := by
    refine Fr.setCell ⟨?_, ?_, ?_, ?_, ?_⟩ (fun _ => .inl rfl) _
    · rw [hF4.os, hF3.os, hos.1, hI.fr.os]
    · rw [hF4.tape, hF3.tape, hos.2.1, hI.fr.tape]
    · rw [hF4.output, hF3.output, hos.2.2, hI.fr.output]
    · have := hF4.size; omega
    · intro k hk hS
      refine (blk k (by omega) (fun e => ?_)).trans (hI.fr.block k hk hS)
      rcases hI.from' with h | ⟨c, h, hle⟩
      · exact hS (.inr (h.symm.trans e))
      · rw [h] at e; injection e with e; injection e with e; omega
  refine ⟨⟨hcellN, (frozen_set _ _ _ _).trans ((World.frozen?_of_block bdb).trans hI.frz), .inr ⟨wr.heap.size, M, i, 0, rfl, hch, by omega, hM2⟩, (bother 0).trans hI.b0, (bother 1).trans hI.b1, hFr, ?_, .inr ⟨_, rfl, hsz⟩⟩, roomOf_zero hcellN hch hM⟩
  exact (hI.oth.trans (Others.of_block bdb)).trans (Others.set db 6 w4 _)

end Go.Proofs.YtlocadmiomglaaaGreatDoor

/- dev: the contracts of its small functions: New, off, op, On, Len, Fuse, Restore, Unsynced, Read. -/
namespace Go.Proofs.YtlocadmiomglaaaGreatDoor
open Go.RowKit Go.Conc

set_option maxRecDepth 100000 in
theorem dev_new (m : Int) (w : World) (h1 : 1 ≤ m) (h2 : m ≤ 3000) :
    Calls Tryz.prog 37 #[.int .i64 m] w fun e w' => e = .returned (.tuple #[.pointer (some ⟨w.heap.size, 0, none⟩), .int .i64 0]) ∧ w' = w.alloc (.cells #[.int .i64 m, .bool true, .bool false, .int .i64 0, .slice none 0 0, .slice none 0 0, .chan none] 163) := by
  go_enter Tryz.func37, Tryz.ntmps37
  go_wp2
  go_ret2
  exact ⟨rfl, rfl⟩

set_option maxRecDepth 100000 in
theorem dev_new_bad (m : Int) (w : World) (h : m < 1 ∨ 3000 < m) :
    Calls Tryz.prog 37 #[.int .i64 m] w fun e w' => e = .returned (.tuple #[.pointer none, .int .i64 1]) ∧ w' = w := by
  rcases Int.lt_or_le m 1 with h1 | h1
  · clear h
    go_enter Tryz.func37, Tryz.ntmps37
    go_wp2
    go_ret2
    exact ⟨rfl, rfl⟩
  · have h2 : 3000 < m := by omega
    clear h
    go_enter Tryz.func37, Tryz.ntmps37
    go_wp2
    go_ret2
    exact ⟨rfl, rfl⟩

set_option maxRecDepth 100000 in
theorem dev_off (db : Nat) (on : Bool) (w : World) (h : w.cell? ⟨db, 1, none⟩ = some (.bool on)) :
    Calls Tryz.prog 117 #[.pointer (some ⟨db, 0, none⟩)] w fun e w' => e = .returned (.bool (!on)) ∧ w' = w := by
  go_enter Tryz.func117, Tryz.ntmps117
  go_wp2
  go_ret
  exact ⟨rfl, rfl⟩

set_option maxRecDepth 100000 in
theorem dev_off_nil (w : World) :
    Calls Tryz.prog 117 #[.pointer none] w fun e w' => e = .returned (.bool true) ∧ w' = w := by
  go_enter Tryz.func117, Tryz.ntmps117
  go_wp2
  go_ret
  exact ⟨rfl, rfl⟩

set_option maxRecDepth 100000 in
theorem dev_op_plain (db : Nat) (w : World) (h : w.cell? ⟨db, 2, none⟩ = some (.bool false)) :
    Calls Tryz.prog 118 #[.pointer (some ⟨db, 0, none⟩)] w fun e w' => e = .returned (.bool false) ∧ w' = w := by
  go_enter Tryz.func118, Tryz.ntmps118
  go_wp2
  go_ret
  exact ⟨rfl, rfl⟩

set_option maxRecDepth 100000 in
theorem dev_op_left (db : Nat) (n : Int) (w : World) (h : w.cell? ⟨db, 2, none⟩ = some (.bool true)) (h3 : w.cell? ⟨db, 3, none⟩ = some (.int .i64 n)) (hf : w.frozen? ⟨db, 3, none⟩ = false) (h0 : 0 < n) (hn : n ≤ 1000000) :
    Calls Tryz.prog 118 #[.pointer (some ⟨db, 0, none⟩)] w fun e w' => e = .returned (.bool false) ∧ w' = w.setCell ⟨db, 3, none⟩ (.int .i64 (n - 1)) := by
  have e1 : IntKind.i64.wrap (n - 1) = n - 1 := IntWalk.i64_in _ ⟨by omega, by omega⟩
  go_enter Tryz.func118, Tryz.ntmps118
  go_wp2
  go_ret
  exact ⟨rfl, rfl⟩

set_option maxRecDepth 100000 in
theorem dev_len (db : Nat) (p : Option Addr) (n c : Nat) (w : World) (h : w.cell? ⟨db, 5, none⟩ = some (.slice p n c)) :
    Calls Tryz.prog 43 #[.pointer (some ⟨db, 0, none⟩)] w fun e w' => e = .returned (.int .i64 n) ∧ w' = w := by
  go_enter Tryz.func43, Tryz.ntmps43
  go_wp2
  go_ret
  exact ⟨rfl, rfl⟩



set_option maxHeartbeats 1000000 in
set_option maxRecDepth 100000 in
theorem dev_op_fails (db : Nat) (n : Int) (on : Bool) (w : World) (h1 : w.cell? ⟨db, 1, none⟩ = some (.bool on)) (h : w.cell? ⟨db, 2, none⟩ = some (.bool true)) (h3 : w.cell? ⟨db, 3, none⟩ = some (.int .i64 n)) (hf1 : w.frozen? ⟨db, 1, none⟩ = false) (hf2 : w.frozen? ⟨db, 2, none⟩ = false) (h0 : n ≤ 0) :
    Calls Tryz.prog 118 #[.pointer (some ⟨db, 0, none⟩)] w fun e w' => e = .returned (.bool true) ∧ w' = (w.setCell ⟨db, 1, none⟩ (.bool false)).setCell ⟨db, 2, none⟩ (.bool false) := by
  go_enter Tryz.func118, Tryz.ntmps118
  go_wp2
  go_ret
  exact ⟨rfl, rfl⟩



set_option maxRecDepth 100000 in
theorem dev_read (db g o : Nat) (n c k : Nat) (s : ByteArray) (w : World) (h1 : w.cell? ⟨db, 1, none⟩ = some (.bool true)) (h5 : w.cell? ⟨db, 5, none⟩ = some (.slice (some ⟨g, o, none⟩) n c)) (hk : k < n) (hs : w.cell? ⟨g, o + k, none⟩ = some (.string s)) :
    Calls Tryz.prog 162 #[.pointer (some ⟨db, 0, none⟩), .int .i64 k] w fun e w' => e = .returned (.tuple #[.string s, .int .i64 0]) ∧ w' = w := by
  have HO := Lib.hid (dev_off db true w h1)
  go_enter Tryz.func162, Tryz.ntmps162
  go_wp2_with fail
  refine HO.out.mono ?_
  rintro e w1 ⟨rfl, rfl⟩
  have hk0 : ¬ ((k : Int) < 0) := by omega
  go_wp2
  go_ret2
  exact ⟨rfl, rfl⟩

set_option maxRecDepth 100000 in
theorem dev_read_out (db : Nat) (p : Option Addr) (n c : Nat) (k : Int) (w : World) (h1 : w.cell? ⟨db, 1, none⟩ = some (.bool true)) (h5 : w.cell? ⟨db, 5, none⟩ = some (.slice p n c)) (hk : k < 0 ∨ (n : Int) ≤ k) :
    Calls Tryz.prog 162 #[.pointer (some ⟨db, 0, none⟩), .int .i64 k] w fun e w' => e = .returned (.tuple #[.string ByteArray.empty, .int .i64 3]) ∧ w' = w := by
  have HO := Lib.hid (dev_off db true w h1)
  rcases Int.lt_or_le k 0 with h0 | h0
  · clear hk
    go_enter Tryz.func162, Tryz.ntmps162
    go_wp2_with fail
    refine HO.out.mono ?_
    rintro e w1 ⟨rfl, rfl⟩
    go_wp2
    go_ret2
    exact ⟨rfl, rfl⟩
  · have hge : (n : Int) ≤ k := by omega
    clear hk
    go_enter Tryz.func162, Tryz.ntmps162
    go_wp2_with fail
    refine HO.out.mono ?_
    rintro e w1 ⟨rfl, rfl⟩
    go_wp2
    go_ret2
    exact ⟨rfl, rfl⟩
end Go.Proofs.YtlocadmiomglaaaGreatDoor

/- dev: what a device's block holds; its rows kept through an append. -/
namespace Go.Proofs.YtlocadmiomglaaaGreatDoor
open Go.RowKit Go.Conc

def scells (b : ByteArray) : List Value := [.string b]
theorem scells_length (b : ByteArray) : (scells b).length = 1 := rfl
theorem info_string : (Tryz.prog.info? 9).map (fun i => (i.zero, i.size, i.bytes)) = some (some (.string ByteArray.empty), 1, 16) := by kernel_rfl

/-- A device. -/
structure DevI (db base : Nat) (m : Int) (on fu : Bool) (lf : Int) (sy nw : List ByteArray) (ws : List Wr) (v4 v5 cv : Value) (w : World) : Prop where
  c0 : w.cell? ⟨db, 0, none⟩ = some (.int .i64 m)
  c1 : w.cell? ⟨db, 1, none⟩ = some (.bool on)
  c2 : w.cell? ⟨db, 2, none⟩ = some (.bool fu)
  c3 : w.cell? ⟨db, 3, none⟩ = some (.int .i64 lf)
  c4 : w.cell? ⟨db, 4, none⟩ = some v4
  c5 : w.cell? ⟨db, 5, none⟩ = some v5
  c6 : w.cell? ⟨db, 6, none⟩ = some cv
  fz : ∀ k, k ≤ 6 → w.frozen? ⟨db, k, none⟩ = false
  o4 : w.ownsRow base 9 1 v4 sy.length (rowOf scells sy)
  o5 : w.ownsRow base 9 1 v5 nw.length (rowOf scells nw)
  n4 : v4.ownBlock ≠ some db
  n5 : v5.ownBlock ≠ some db
  n45 : ∀ g, v4.ownBlock = some g → v5.ownBlock ≠ some g
  ch : ChanI w cv ws
  bs : base ≤ db
  bc : ∀ c, cv = .chan (some c) → base ≤ c

/-- The blocks of a device. -/
def devF (db : Nat) (v4 v5 cv : Value) : Nat → Prop := fun k => k = db ∨ v4.ownBlock = some k ∨ v5.ownBlock = some k ∨ cv = .chan (some k)

section
variable {db base : Nat} {m lf : Int} {on fu : Bool} {sy nw : List ByteArray} {ws : List Wr} {v4 v5 cv : Value} {w w' : World}

theorem ChanI.keep (h : ChanI w cv ws) {S : Nat → Prop} (hF : Fr S w w') (hS : ∀ c, cv = .chan (some c) → ¬ S c) : ChanI w' cv ws := by
  rcases h with h | ⟨c, cap, s, r, e, hc, h1, h2⟩
  · exact .inl h
  · exact .inr ⟨c, cap, s, r, e, (hF.block c (Array.getElem?_eq_some_iff.1 hc).1 (hS c e)).trans hc, h1, h2⟩

theorem DevI.keep (h : DevI db base m on fu lf sy nw ws v4 v5 cv w) {S : Nat → Prop} (hF : Fr S w w') (hS : ∀ k, devF db v4 v5 cv k → ¬ S k) : DevI db base m on fu lf sy nw ws v4 v5 cv w' := by
  have hdl : db < w.heap.size := cell_lt h.c0
  have cc : ∀ o, w'.cell? ⟨db, o, none⟩ = w.cell? ⟨db, o, none⟩ := fun o => hF.cell (p := ⟨db, o, none⟩) hdl (hS db (.inl rfl))
  have ff : ∀ o, w'.frozen? ⟨db, o, none⟩ = w.frozen? ⟨db, o, none⟩ := fun o => hF.frozen (p := ⟨db, o, none⟩) hdl (hS db (.inl rfl))
  exact ⟨(cc 0).trans h.c0, (cc 1).trans h.c1, (cc 2).trans h.c2, (cc 3).trans h.c3, (cc 4).trans h.c4, (cc 5).trans h.c5, (cc 6).trans h.c6, fun k hk => (ff k).trans (h.fz k hk), hF.owns h.o4 (fun g hg => hS g (.inr (.inl hg))), hF.owns h.o5 (fun g hg => hS g (.inr (.inr (.inl hg)))), h.n4, h.n5, h.n45, h.ch.keep hF (fun c e => hS c (.inr (.inr (.inr e)))), h.bs, h.bc⟩

theorem DevI.lt (h : DevI db base m on fu lf sy nw ws v4 v5 cv w) : ∀ k, devF db v4 v5 cv k → k < w.heap.size := by
  rintro k (rfl | hk | hk | hk)
  · exact cell_lt h.c0
  · exact (h.o4.lt k hk).2
  · exact (h.o5.lt k hk).2
  · rcases h.ch with ⟨e, _⟩ | ⟨c, cap, s, r, e, hc, _⟩
    · rw [e] at hk; cases hk
    · rw [e] at hk; injection hk with hk; injection hk with hk; subst hk; exact (Array.getElem?_eq_some_iff.1 hc).1

theorem DevI.ge (h : DevI db base m on fu lf sy nw ws v4 v5 cv w) : ∀ k, devF db v4 v5 cv k → base ≤ k := by
  rintro k (rfl | hk | hk | hk)
  · exact h.bs
  · exact (h.o4.lt k hk).1
  · exact (h.o5.lt k hk).1
  · exact h.bc k hk

theorem owns_not_chan {b : Nat} {e : TypeId} {n : Nat} {v : Value} {xs : List Value} {g c cap s r : Nat} (h : w.ownsRow b e 1 v n xs) (hg : v.ownBlock = some g) (hc : w.heap[c]? = some (chanOf cap s r ws)) : g ≠ c := by
  rintro rfl
  rcases h.2 with ⟨rfl, _⟩ | ⟨g', cp, cur, rfl, _, hb, _⟩
  · cases hg
  · have e1 : g' = g := by simpa [Value.ownBlock] using hg
    subst e1
    rw [hb] at hc
    simp [chanOf] at hc

theorem DevI.app5 (h : DevI db base m on fu lf sy nw ws v4 v5 cv w) {X : Obj} {w1 : World} {g cap : Nat} {e : ByteArray} (hown : w1.ownsRow base 9 1 (.slice (some ⟨g, 0, none⟩) (nw.length + 1) cap) (nw.length + 1) (rowOf scells nw ++ [.string e])) (hgr : (w.alloc X).grownBy w1 v5.ownBlock) (hat : v5.ownBlock = some g ∨ g = w.heap.size + 1) :
    DevI db base m on fu lf sy (nw ++ [e]) ws v4 (.slice (some ⟨g, 0, none⟩) (nw.length + 1) cap) cv (w1.setCell ⟨db, 5, none⟩ (.slice (some ⟨g, 0, none⟩) (nw.length + 1) cap)) ∧ Fr (devF db v4 v5 cv) w (w1.setCell ⟨db, 5, none⟩ (.slice (some ⟨g, 0, none⟩) (nw.length + 1) cap)) := by
  have hdl : db < w.heap.size := cell_lt h.c0
  have hF1 : Fr (fun i => v5.ownBlock = some i) w w1 := Fr.trans ((Fr.refl _ w).alloc X) (Fr.of_grown hgr (fun i _ hi => hi)) (fun i hi _ => hi)
  have hF2 : Fr (fun i => i = db) w1 (w1.setCell ⟨db, 5, none⟩ (.slice (some ⟨g, 0, none⟩) (nw.length + 1) cap)) := (Fr.refl (fun i => i = db) w1).setCell (fun _ => rfl) _
  have cc : ∀ o, w1.cell? ⟨db, o, none⟩ = w.cell? ⟨db, o, none⟩ := fun o => hF1.cell (p := ⟨db, o, none⟩) hdl h.n5
  have ff : ∀ o, w1.frozen? ⟨db, o, none⟩ = w.frozen? ⟨db, o, none⟩ := fun o => hF1.frozen (p := ⟨db, o, none⟩) hdl h.n5
  have co : ∀ o, o ≠ 5 → (w1.setCell ⟨db, 5, none⟩ (.slice (some ⟨g, 0, none⟩) (nw.length + 1) cap)).cell? ⟨db, o, none⟩ = w1.cell? ⟨db, o, none⟩ := fun o ho => World.cell?_setCell_other _ _ _ _ (by intro e9; injection e9 with _ e9 _; omega)
  have hne : g ≠ db := by
    rcases hat with hat | hat
    · rintro rfl; exact h.n5 hat
    · omega
  have hrow := hF2.owns hown (fun x hx => by
    have e9 : g = x := by simpa [Value.ownBlock] using hx
    subst e9
    exact hne)
  have hoth := hF2.owns (hF1.owns h.o4 (fun x hx => h.n45 x hx)) (fun x hx => by rintro rfl; exact h.n4 hx)
  have hch : ChanI (w1.setCell ⟨db, 5, none⟩ (.slice (some ⟨g, 0, none⟩) (nw.length + 1) cap)) cv ws := by
    refine (h.ch.keep hF1 (fun c e9 => ?_)).keep hF2 (fun c e9 => ?_)
    · rcases h.ch with ⟨e8, _⟩ | ⟨c8, cap8, s8, r8, e8, hc8, _⟩
      · rw [e8] at e9; cases e9
      · rw [e8] at e9; injection e9 with e9; injection e9 with e9; subst e9; intro h9; exact owns_not_chan h.o5 h9 hc8 rfl
    · rcases h.ch with ⟨e8, _⟩ | ⟨c8, cap8, s8, r8, e8, hc8, _⟩
      · rw [e8] at e9; cases e9
      · rw [e8] at e9; injection e9 with e9; injection e9 with e9; subst e9; intro h9; exact not_chan h.c0 hc8 h9.symm
  refine ⟨⟨(co 0 (by omega)).trans ((cc 0).trans h.c0), (co 1 (by omega)).trans ((cc 1).trans h.c1), (co 2 (by omega)).trans ((cc 2).trans h.c2), (co 3 (by omega)).trans ((cc 3).trans h.c3), (co 4 (by omega)).trans ((cc 4).trans h.c4), cell_set_same w1 ⟨db, 5, none⟩ _ v5 ((cc 5).trans h.c5), (co 6 (by omega)).trans ((cc 6).trans h.c6), fun o ho => (frozen_set _ _ _ _).trans ((ff o).trans (h.fz o ho)), hoth, ?_, h.n4, ?_, ?_, hch, h.bs, h.bc⟩, ?_⟩
  · rw [rowOf_append, rowOf_one, List.length_append]; exact hrow
  · intro e9
    have e9 : g = db := by simpa [Value.ownBlock] using e9
    exact hne e9
  · exact fun g9 h9 => by
      intro e9
      have e9 : g = g9 := by simpa [Value.ownBlock] using e9
      subst e9
      rcases hat with hat | hat
      · exact h.n45 g h9 hat
      · have := (h.o4.lt g h9).2; omega
  · exact Fr.trans (hF1.mono (fun i _ hi => .inr (.inr (.inl hi)))) (hF2.mono (fun i _ hi => (.inl hi : devF db v4 v5 cv i))) (fun i hi _ => hi)

theorem DevI.app4 (h : DevI db base m on fu lf sy nw ws v4 v5 cv w) {X : Obj} {w1 : World} {g cap : Nat} {e : ByteArray} (hown : w1.ownsRow base 9 1 (.slice (some ⟨g, 0, none⟩) (sy.length + 1) cap) (sy.length + 1) (rowOf scells sy ++ [.string e])) (hgr : (w.alloc X).grownBy w1 v4.ownBlock) (hat : v4.ownBlock = some g ∨ g = w.heap.size + 1) :
    DevI db base m on fu lf (sy ++ [e]) nw ws (.slice (some ⟨g, 0, none⟩) (sy.length + 1) cap) v5 cv (w1.setCell ⟨db, 4, none⟩ (.slice (some ⟨g, 0, none⟩) (sy.length + 1) cap)) ∧ Fr (devF db v4 v5 cv) w (w1.setCell ⟨db, 4, none⟩ (.slice (some ⟨g, 0, none⟩) (sy.length + 1) cap)) := by
  have hdl : db < w.heap.size := cell_lt h.c0
  have hF1 : Fr (fun i => v4.ownBlock = some i) w w1 := Fr.trans ((Fr.refl _ w).alloc X) (Fr.of_grown hgr (fun i _ hi => hi)) (fun i hi _ => hi)
  have hF2 : Fr (fun i => i = db) w1 (w1.setCell ⟨db, 4, none⟩ (.slice (some ⟨g, 0, none⟩) (sy.length + 1) cap)) := (Fr.refl (fun i => i = db) w1).setCell (fun _ => rfl) _
  have cc : ∀ o, w1.cell? ⟨db, o, none⟩ = w.cell? ⟨db, o, none⟩ := fun o => hF1.cell (p := ⟨db, o, none⟩) hdl h.n4
  have ff : ∀ o, w1.frozen? ⟨db, o, none⟩ = w.frozen? ⟨db, o, none⟩ := fun o => hF1.frozen (p := ⟨db, o, none⟩) hdl h.n4
  have co : ∀ o, o ≠ 4 → (w1.setCell ⟨db, 4, none⟩ (.slice (some ⟨g, 0, none⟩) (sy.length + 1) cap)).cell? ⟨db, o, none⟩ = w1.cell? ⟨db, o, none⟩ := fun o ho => World.cell?_setCell_other _ _ _ _ (by intro e9; injection e9 with _ e9 _; omega)
  have hne : g ≠ db := by
    rcases hat with hat | hat
    · rintro rfl; exact h.n4 hat
    · omega
  have hrow := hF2.owns hown (fun x hx => by
    have e9 : g = x := by simpa [Value.ownBlock] using hx
    subst e9
    exact hne)
  have hoth := hF2.owns (hF1.owns h.o5 (fun x hx => fun e9 => h.n45 x e9 hx)) (fun x hx => by rintro rfl; exact h.n5 hx)
  have hch : ChanI (w1.setCell ⟨db, 4, none⟩ (.slice (some ⟨g, 0, none⟩) (sy.length + 1) cap)) cv ws := by
    refine (h.ch.keep hF1 (fun c e9 => ?_)).keep hF2 (fun c e9 => ?_)
    · rcases h.ch with ⟨e8, _⟩ | ⟨c8, cap8, s8, r8, e8, hc8, _⟩
      · rw [e8] at e9; cases e9
      · rw [e8] at e9; injection e9 with e9; injection e9 with e9; subst e9; intro h9; exact owns_not_chan h.o4 h9 hc8 rfl
    · rcases h.ch with ⟨e8, _⟩ | ⟨c8, cap8, s8, r8, e8, hc8, _⟩
      · rw [e8] at e9; cases e9
      · rw [e8] at e9; injection e9 with e9; injection e9 with e9; subst e9; intro h9; exact not_chan h.c0 hc8 h9.symm
  refine ⟨⟨(co 0 (by omega)).trans ((cc 0).trans h.c0), (co 1 (by omega)).trans ((cc 1).trans h.c1), (co 2 (by omega)).trans ((cc 2).trans h.c2), (co 3 (by omega)).trans ((cc 3).trans h.c3), cell_set_same w1 ⟨db, 4, none⟩ _ v4 ((cc 4).trans h.c4), (co 5 (by omega)).trans ((cc 5).trans h.c5), (co 6 (by omega)).trans ((cc 6).trans h.c6), fun o ho => (frozen_set _ _ _ _).trans ((ff o).trans (h.fz o ho)), ?_, hoth, ?_, h.n5, ?_, hch, h.bs, h.bc⟩, ?_⟩
  · rw [rowOf_append, rowOf_one, List.length_append]; exact hrow
  · intro e9
    have e9 : g = db := by simpa [Value.ownBlock] using e9
    exact hne e9
  · exact fun g9 h9 => by
      have h9 : g = g9 := by simpa [Value.ownBlock] using h9
      subst h9
      rcases hat with hat | hat
      · exact h.n45 g hat
      · intro e9; have := (h.o5.lt g e9).2; omega
  · exact Fr.trans (hF1.mono (fun i _ hi => .inr (.inl hi))) (hF2.mono (fun i _ hi => (.inl hi : devF db v4 v5 cv i))) (fun i hi _ => hi)

end
end Go.Proofs.YtlocadmiomglaaaGreatDoor

