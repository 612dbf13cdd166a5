/- free's Free: slices.IndexFunc with the function that Release hands on. -/
import Derived.Test.YtedcpckocedcoaaGreatFreeC
namespace Go.Proofs.YtedcpckocedcoaaGreat
open Go.RowKit

/-- A function value is called: R holds of what it returns. -/
def CallV (P : Program) (fv : Value) (args : Array Value) (w : World) (R : Value → World → Prop) : Prop :=
  ∃ f args', (do let d ← Deferred.ofValue fv args; invoke d.target d.args : Sem Next).run P w = .ok (.enter f args') w ∧ Calls P f args' w fun e w' => ∃ v, e = .returned v ∧ R v w'

section
variable {P : Program} {ops : Array Oper} {rest : List Oper} {a : Act} {w : World} {Q : Exit → Act → World → Prop} {fv v1 : Value} {R : Value → World → Prop}
  {r x1 : Operand} {ts : Array TypeId} {d : Option Tmp} {ty : TypeId} {pos : String} {af : Array Edge} {g : Option (Nat × Bool)}
theorem wpV1 (hC : CallV P fv #[v1] w R) (hw : Region.wanted ⟨d, .call { callee := .value r, args := #[x1], argTypes := ts }, ty, pos, af, g⟩ (yielded ops a.tmps) = true) (hit : a.eval r = fv) (h1 : a.eval x1 = v1)
    (h : ∀ v w', R v w' → wpList P ops Q rest (a.put d v) w') : wpList P ops Q (⟨d, .call { callee := .value r, args := #[x1], argTypes := ts }, ty, pos, af, g⟩ :: rest) a w := by
  refine wpList_step fun K hK => ?_
  rw [if_pos hw]
  obtain ⟨f, xs, e1, e2⟩ := hC
  have e3 : (execOp a.eval ⟨d, .call { callee := .value r, args := #[x1], argTypes := ts }, ty, pos, af, g⟩).run P w = .ok (.enter f xs) w := by
    rw [← e1]
    simp only [execOp, resolve, List.map_toArray, List.map_cons, List.map_nil, hit, h1]
  unfold Oper.wp
  rw [e3]
  simp only [Oper.upon]
  exact e2.mono fun e w' ⟨v, he, hr⟩ => by subst he; exact hK _ _ (h v w' hr)
end

/-- The pile has had these put into it (T: what else may have been written). -/
def PutS (fb base : Nat) (v0 : Value) (l0 : List Int) (T : Nat → Prop) (w0 : World) (ps : List Int) (wr : World) : Prop :=
  ∃ v l, PileI fb base v l wr ∧ l.Perm (l0 ++ ps) ∧ Fr (fun k => pileF fb v0 k ∨ T k) w0 wr ∧ (∀ g, v.ownBlock = some g → Lies v0 g w0.heap.size) ∧ Others fb 0 w0 wr
/-- The pile's blocks as it is now. -/
def curF (fb base : Nat) (wr : World) (k : Nat) : Prop := k = fb ∨ ∃ v l, PileI fb base v l wr ∧ v.ownBlock = some k

section
variable {fb base : Nat} {v0 : Value} {l0 : List Int} {T : Nat → Prop} {w0 wr w2 : World} {ps : List Int}
theorem PutS.start (h : PileI fb base v0 l0 w0) : PutS fb base v0 l0 T w0 [] w0 := ⟨v0, l0, h, by simp, Fr.refl _ _, fun _ hg => .inl hg, fun _ _ => ⟨rfl, rfl⟩⟩
theorem PutS.still {S : Nat → Prop} (h : PutS fb base v0 l0 T w0 ps wr) (hF : Fr S wr w2) (hS : ∀ k, k < wr.heap.size → S k → T k ∧ ¬ curF fb base wr k) : PutS fb base v0 l0 T w0 ps w2 := by
  obtain ⟨v, l, hI, hp, hF0, hL, hO⟩ := h
  have hlt : fb < wr.heap.size := cell_lt hI.1.1
  have hnS : ∀ k, pileF fb v k → ¬ S k := fun k hk hs => by
    rcases hk with rfl | hk
    · exact (hS _ hlt hs).2 (.inl rfl)
    · obtain ⟨_, hb, _⟩ := row_block hI.1.2.2.1 hk
      exact (hS k (Array.getElem?_eq_some_iff.1 hb).1 hs).2 (.inr ⟨v, l, hI, hk⟩)
  exact ⟨v, l, hI.keep hF hnS, hp, Fr.trans hF0 (hF.mono (T := T) (fun i hi hs => (hS i hi hs).1)) (fun i hi _ => .inr hi), hL, hO.trans (Others.of_block (hF.block fb hlt (hnS fb (.inl rfl))))⟩
theorem PutS.below (h : PutS fb base v0 l0 T w0 ps wr) (hb : Below wr.heap.size wr w2) : PutS fb base v0 l0 T w0 ps w2 :=
  h.still (Fr.of_all (S := fun _ => False) hb) (fun _ _ h => h.elim)
theorem PutS.mono {T' : Nat → Prop} (h : PutS fb base v0 l0 T w0 ps wr) (hT : ∀ k, T k → T' k) : PutS fb base v0 l0 T' w0 ps wr := by
  obtain ⟨v, l, hI, hp, hF0, hL, hO⟩ := h
  exact ⟨v, l, hI, hp, hF0.mono (fun k _ hk => hk.imp id (hT k)), hL, hO⟩
end

def clV (Bp Bb Bf : Nat) : Value := .func (.func 47) #[] #[.pointer (some ⟨Bp, 0, none⟩), .pointer (some ⟨Bb, 0, none⟩), .pointer (some ⟨Bf, 0, none⟩)]

section
variable {Bp Bb Bf fb base : Nat} {pinned : Bool} {border : Int} {v0 : Value} {l0 ps : List Int} {T : Nat → Prop} {w0 wr : World}
theorem rel_call (x : Int × Int) (h : RelE Bp Bb Bf fb pinned border wr) (hS : PutS fb base v0 l0 T w0 ps wr) (hn : l0.length + ps.length + 1 < 1000000) :
    CallV Tryz.prog (clV Bp Bb Bf) #[.agg #[.int .i64 x.1, .int .i64 x.2]] wr fun u w' => u = .bool (goes pinned border x) ∧ PutS fb base v0 l0 T w0 (ps ++ pagesOf ([x].filter (goes pinned border))) w' ∧ Fr (curF fb base wr) wr w' := by
  refine ⟨47, #[.agg #[.int .i64 x.1, .int .i64 x.2], .pointer (some ⟨Bp, 0, none⟩), .pointer (some ⟨Bb, 0, none⟩), .pointer (some ⟨Bf, 0, none⟩)], by kernel_rfl, ?_⟩
  cases hg : goes pinned border x with
  | false =>
    refine (rel_no h hg).mono ?_
    rintro e w' ⟨he, hb⟩
    refine ⟨_, he, rfl, ?_, Fr.of_all hb⟩
    rw [show pagesOf ([x].filter (goes pinned border)) = [] by simp [hg, pagesOf], List.append_nil]
    exact hS.below hb
  | true =>
    obtain ⟨v, l, hI, hp, hF0, hL, hO⟩ := hS
    have hlen : l.length = l0.length + ps.length := by rw [hp.length_eq, List.length_append]
    refine (rel_yes h hI (by omega) hg).mono ?_
    rintro e w' ⟨he, v', l', hI', hp', hF', hL', hO'⟩
    refine ⟨_, he, rfl, ?_, hF'.mono (fun k _ hk => hk.imp id (fun hk => ⟨v, l, hI, hk⟩))⟩
    rw [show pagesOf ([x].filter (goes pinned border)) = [x.2] by simp [hg, pagesOf]]
    refine ⟨v', l', hI', ?_, Fr.trans hF0 hF' (fun i hi hlt => ?_), fun g hg => ?_, hO.trans hO'⟩
    · rw [← List.append_assoc]
      exact hp'.trans (hp.append_right _)
    · rcases hi with hi | hi
      · exact .inl (.inl hi)
      · rcases hL i hi with h | h
        · exact .inl (.inr h)
        · omega
    · rcases hL' g hg with h | h
      · exact hL g h
      · exact .inr (Nat.le_trans hF0.size h)

/-- What the search ahead finds. -/
def IdxR (fb base : Nat) (v0 : Value) (l0 : List Int) (w0 : World) (go : Int × Int → Bool) (ws : List (Int × Int)) (r : Int) (w' : World) : Prop :=
  (r = -1 ∧ (∀ j, j < ws.length → go (ws.getD j default) = false) ∧ PutS fb base v0 l0 (fun _ => False) w0 [] w') ∨
  ∃ k : Nat, k < ws.length ∧ r = k ∧ (∀ j, j < k → go (ws.getD j default) = false) ∧ go (ws.getD k default) = true ∧ PutS fb base v0 l0 (fun _ => False) w0 [(ws.getD k default).2] w'

set_option maxHeartbeats 2000000 in
set_option maxRecDepth 100000 in
theorem idx_rel (g cap : Nat) (p : Option Addr) (ws : List (Int × Int)) (hp : 0 < ws.length → p = some ⟨g, 0, none⟩ ∧ g < w0.heap.size ∧ ¬ pileF fb v0 g)
    (hc : ∀ k, k < ws.length → w0.cell? ⟨g, k * 2, none⟩ = some (.int .i64 (ws.getD k default).1) ∧ w0.cell? ⟨g, k * 2 + 1, none⟩ = some (.int .i64 (ws.getD k default).2))
    (hE : RelE Bp Bb Bf fb pinned border w0) (h1 : ¬ pileF fb v0 Bp) (h2 : ¬ pileF fb v0 Bb) (h3 : ¬ pileF fb v0 Bf) (hI : PileI fb base v0 l0 w0) (hn : l0.length + ws.length < 900000) :
    Calls Tryz.prog 109 #[.slice p ws.length cap, clV Bp Bb Bf] w0 fun e w' => ∃ r : Int, e = .returned (.int .i64 r) ∧ IdxR fb base v0 l0 w0 (goes pinned border) ws r w' := by
  have HP := Lib.hid hp
  have HC := Lib.hid hc
  have HRC := Lib.hid (fun x wr (hS : PutS fb base v0 l0 (fun _ => False) w0 [] wr) => by
    obtain ⟨v, l, hI, hp, hF0, hL, hO⟩ := id hS
    exact rel_call x (hE.keep hF0 (fun h => h.elim h1 id) (fun h => h.elim h2 id) (fun h => h.elim h3 id)) hS (by simp; omega))
  have HST : Hid (PutS fb base v0 l0 (fun _ => False) w0 [] w0) := Lib.hid (PutS.start hI)
  have hbig : ws.length ≤ 1000000 := by omega
  clear hp hc hE h1 h2 h3 hI
  generalize clV Bp Bb Bf = cl at *
  go_enter Tryz.func109, Tryz.ntmps109
  go_wp2
  go_loopw [5, 8] (fun _ iv wr => ∃ k : Nat, k ≤ ws.length ∧ iv = .int .i64 k ∧ Hid (∀ j, j < k → goes pinned border (ws.getD j default) = false) ∧ Hid (PutS fb base v0 l0 (fun _ => False) w0 [] wr)) (fun _ iv _ => ws.length - (intOf iv).toNat)
  case atStart => exact ⟨0, Nat.zero_le _, rfl, Lib.hid (fun j hj => absurd hj (Nat.not_lt_zero j)), HST⟩
  case round =>
    clear HST
    obtain ⟨k, hk, rfl, hno, hS⟩ := hrel
    by_cases hlt : k < ws.length
    · obtain ⟨rfl, hgl, hgp⟩ := HP.out (by omega)
      obtain ⟨v, l, hI, hp, hF0, hL, hO⟩ := id hS.out
      obtain ⟨x0, x1⟩ := HC.out k hlt
      have y0 := (hF0.cell (p := ⟨g, k * 2, none⟩) hgl (fun h => h.elim hgp id)).trans x0
      have y1 := (hF0.cell (p := ⟨g, k * 2 + 1, none⟩) hgl (fun h => h.elim hgp id)).trans x1
      have HV := Lib.hid (HRC.out (ws.getD k default) wr hS.out)
      have HNX : Hid (goes pinned border (ws.getD k default) = false → ∀ j, j < k + 1 → goes pinned border (ws.getD j default) = false) := Lib.hid (fun h j hj => by
        rcases Nat.lt_or_ge j k with h1 | h1
        · exact hno.out j h1
        · obtain rfl : j = k := by omega
          exact h)
      have HHIT : Hid (∀ w', goes pinned border (ws.getD k default) = true → PutS fb base v0 l0 (fun _ => False) w0 [(ws.getD k default).2] w' → IdxR fb base v0 l0 w0 (goes pinned border) ws k w') := Lib.hid (fun w' h1 h2 => .inr ⟨k, hlt, rfl, hno.out, h1, h2⟩)
      clear hI hp hF0 hL hO x0 x1 hS
      generalize ws.getD k default = x at *
      obtain ⟨tx, px⟩ := x
      cases hg : goes pinned border (tx, px) with
      | false =>
        have e9 : pagesOf (([(tx, px)] : List (Int × Int)).filter (goes pinned border)) = [] := by simp [hg, pagesOf]
        rw [hg, e9, List.append_nil] at HV
        have HN2 := Lib.hid (HNX.out hg)
        clear hg e9 HNX HHIT
        go_wp2_with (first
          | ((with_reducible refine wpV1 HV.out ?_ ?_ ?_ ?_); rfl; rfl; rfl; rintro u w3 ⟨rfl, hS3, _⟩; have HS3 := Lib.hid hS3; clear hS3))
        go_roundw
        case rel => exact ⟨k + 1, by omega, by go_num, HN2, HS3⟩
        case measure => simp [intOf]; omega
      | true =>
        have e9 : pagesOf (([(tx, px)] : List (Int × Int)).filter (goes pinned border)) = [px] := by simp [hg, pagesOf]
        rw [hg, e9, List.nil_append] at HV
        have HH2 := Lib.hid (fun w' => HHIT.out w' hg)
        clear hg e9 HNX HHIT
        go_wp2_with (first
          | ((with_reducible refine wpV1 HV.out ?_ ?_ ?_ ?_); rfl; rfl; rfl; rintro u w3 ⟨rfl, hS3, _⟩; have HS3 := Lib.hid hS3; clear hS3))
        go_ret
        exact ⟨_, rfl, HH2.out _ HS3.out⟩
    · obtain rfl : k = ws.length := by omega
      have HFIN : Hid (IdxR fb base v0 l0 w0 (goes pinned border) ws (-1) wr) := Lib.hid (.inl ⟨rfl, hno.out, hS.out⟩)
      clear hno hS
      go_wp2
      go_ret
      exact ⟨_, rfl, HFIN.out⟩
end
end Go.Proofs.YtedcpckocedcoaaGreat
