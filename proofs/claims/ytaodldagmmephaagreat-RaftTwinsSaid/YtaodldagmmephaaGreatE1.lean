/- Merged texts: Blk Rt4 Rt5 Ts. -/
import Derived.Test.YtaodldagmmephaaGreatA1
import Derived.Test.YtaodldagmmephaaGreatC1
import Derived.Test.YtaodldagmmephaaGreatB5
import Derived.Test.YtaodldagmmephaaGreatB7
import Derived.Deep.DeepCutAuto
import Derived.Deep.CutBlock
import Derived.Deep.LoopGhost
/- Pieces of a function's code, by number. -/
namespace Go.Proofs.YtaodldagmmephaaGreat
/-- The block of a number in a function's code. -/
def blkOf2 (n : Nat) : Code → Option Code
  | .block id b => if id == n then some (.block id b) else blkOf2 n b
  | .seq a b => (blkOf2 n a).orElse fun _ => blkOf2 n b
  | .cond _ a b => (blkOf2 n a).orElse fun _ => blkOf2 n b
  | .loop b => blkOf2 n b
  | _ => none
theorem blk_body2 {o : Option Code} {n : Nat} {c : Code} (hc : o.bind (blkOf2 n) = some c) : ∃ d, o = some d ∧ blkOf2 n d = some c := by
  cases o with
  | none => cases hc
  | some d => exact ⟨d, rfl, hc⟩
def endsReg (n : Nat) : Code → Bool
  | .region id _ _ => id == n
  | _ => false
/-- What stands behind the region of a number. -/
def aftReg (n : Nat) : Code → Option Code
  | .seq a b => if endsReg n a then some b else (aftReg n a).orElse fun _ => aftReg n b
  | .block _ b => aftReg n b
  | .cond _ a b => (aftReg n a).orElse fun _ => aftReg n b
  | .loop b => aftReg n b
  | _ => none
theorem aft_body2 {o : Option Code} {n : Nat} {c : Code} (hc : o.bind (aftReg n) = some c) : ∃ d, o = some d ∧ aftReg n d = some c := by
  cases o with
  | none => cases hc
  | some d => exact ⟨d, rfl, hc⟩
def headReg (n : Nat) : Code → Bool
  | .region id _ _ => id == n
  | .seq a _ => headReg n a
  | _ => false
/-- What stands behind the statement (a test) that begins with the region of a number. -/
def aftTest (n : Nat) : Code → Option Code
  | .seq a b => match a with
    | .seq x (.cond _ _ _) => if headReg n x then some b else (aftTest n a).orElse fun _ => aftTest n b
    | _ => (aftTest n a).orElse fun _ => aftTest n b
  | .block _ b => aftTest n b
  | .cond _ a b => (aftTest n a).orElse fun _ => aftTest n b
  | .loop b => aftTest n b
  | _ => none
theorem aft_test {o : Option Code} {n : Nat} {c : Code} (hc : o.bind (aftTest n) = some c) : ∃ d, o = some d ∧ aftTest n d = some c := by
  cases o with
  | none => cases hc
  | some d => exact ⟨d, rfl, hc⟩
end Go.Proofs.YtaodldagmmephaaGreat

/- arboretumlaw20.hear: what a core is told. -/
namespace Go.Proofs.YtaodldagmmephaaGreat
open Go.RowKit Go.Maps
namespace RF
/-- What a core makes of a step of the laws (Compact left out). -/
def RS.hearS (s : RS) (o : OpL) (ms : List Int) : RS :=
  if o.kd = 1 then s.tick0 o.a
  else if o.kd = 3 then (if s.propE 1 o.st = 0 then s.prop0 1 o.st else s)
  else if o.kd = 5 then (if s.askE = 0 then s.ask0 else s)
  else if o.kd = 7 then (if s.restOk o.six o.stm ms then s.rest o.six o.stm ms else s)
  else if o.kd = 8 then s.appRes (sentM o.a o.b)
  else s.step o.m
section
variable {rb base : Nat} {s : RS} {h : Hd} {w : World} {M : Int} {N : Nat}
theorem Ans.later {h0 : Hd} {w' W' : World} {e : Ending} (A : Ans rb base s h0 w e w') (hb : Below w'.heap.size w' W') : Ans rb base s h0 w e W' := by
  obtain ⟨v, h', rfl, hc, hr, hp, ov, nv, mh, rfl, h1, h2, h3, h4, h5⟩ := A
  exact ⟨_, h', rfl, hc, hr.below hb, hp.trans (PS.still hb), ov, nv, mh, rfl, h1, (Fr.of_all (S := fun _ => False) hb).owns h2 (fun _ _ h => h), fun x hx => (Fr.of_all (S := fun _ => False) hb).owns (h3 x hx) (fun _ _ h => h), (Fr.of_all (S := fun _ => False) hb).owns h4 (fun _ _ h => h), h5⟩
set_option maxHeartbeats 2000000 in
set_option maxRecDepth 100000 in
theorem rf_hear (o : OpL) (ms : List Int) (H : Rf rb base s h w) (B : RB M N s) (hM : M + (max o.m.en.length 1 : Nat) < 4503599627370496) (hN : N + max o.m.en.length 1 ≤ 10000) (hvt : s.votes.length ≤ 900) (hcl : h.clean) (hout : s.out = ot0) (hel : 0 ≤ s.elapsed ∧ s.elapsed ≤ 4611686018427387904)
    (E : EnsAt rb h o.m o.x w) (hi : (i64ok o.a ∧ i64ok o.b ∧ i64ok o.six) ∧ i64ok o.m.ix) (hds : o.st.size ≤ 3000) (hsx : o.six ≤ M) (HMS : RdI w w.heap.size o.sp o.sn ms) (hmn : ms.length = o.sn) (hoff : 0 < o.sn → ∀ g k, o.sp = some ⟨g, k, none⟩ → ¬ Fo rb h g) (hk6 : o.kd ≠ 6) :
    Calls Tryz.prog 35 #[.pointer (some ⟨rb, 0, none⟩), .agg #[.int .i64 o.kd, .int .i64 o.a, .int .i64 o.b, .int .i64 o.m.kd, .int .i64 o.m.fr, .int .i64 o.m.tq, .int .i64 o.m.tm, .int .i64 o.m.ix, .int .i64 o.m.lt, .int .i64 o.m.cm, .int .i64 o.m.rd, .bool o.m.ok, .bool o.x.dn, .slice o.x.pe o.m.en.length o.x.ce, .slice o.x.pm o.x.nm o.x.cm, .int .i64 o.x.of, .slice o.x.pp o.x.np o.x.cp, .string o.st, .slice o.lp o.ln o.lc, .int .i64 o.six, .int .i64 o.stm, .slice o.sp o.sn o.sc]] w (Ans rb base (s.hearS o ms) h w) := by
  have hb0 : Below w.heap.size w (w.alloc (.cells #[.int .i64 o.kd, .int .i64 o.a, .int .i64 o.b, .int .i64 o.m.kd, .int .i64 o.m.fr, .int .i64 o.m.tq, .int .i64 o.m.tm, .int .i64 o.m.ix, .int .i64 o.m.lt, .int .i64 o.m.cm, .int .i64 o.m.rd, .bool o.m.ok, .bool o.x.dn, .slice o.x.pe o.m.en.length o.x.ce, .slice o.x.pm o.x.nm o.x.cm, .int .i64 o.x.of, .slice o.x.pp o.x.np o.x.cp, .string o.st, .slice o.lp o.ln o.lc, .int .i64 o.six, .int .i64 o.stm, .slice o.sp o.sn o.sc] 83)) := (Below.refl _ w).alloc (Nat.le_refl _) _
  have X0 := CBox.fresh w [.int .i64 o.kd, .int .i64 o.a, .int .i64 o.b, .int .i64 o.m.kd, .int .i64 o.m.fr, .int .i64 o.m.tq, .int .i64 o.m.tm, .int .i64 o.m.ix, .int .i64 o.m.lt, .int .i64 o.m.cm, .int .i64 o.m.rd, .bool o.m.ok, .bool o.x.dn, .slice o.x.pe o.m.en.length o.x.ce, .slice o.x.pm o.x.nm o.x.cm, .int .i64 o.x.of, .slice o.x.pp o.x.np o.x.cp, .string o.st, .slice o.lp o.ln o.lc, .int .i64 o.six, .int .i64 o.stm, .slice o.sp o.sn o.sc] 83
  have hs0 : (w.alloc (.cells #[.int .i64 o.kd, .int .i64 o.a, .int .i64 o.b, .int .i64 o.m.kd, .int .i64 o.m.fr, .int .i64 o.m.tq, .int .i64 o.m.tm, .int .i64 o.m.ix, .int .i64 o.m.lt, .int .i64 o.m.cm, .int .i64 o.m.rd, .bool o.m.ok, .bool o.x.dn, .slice o.x.pe o.m.en.length o.x.ce, .slice o.x.pm o.x.nm o.x.cm, .int .i64 o.x.of, .slice o.x.pp o.x.np o.x.cp, .string o.st, .slice o.lp o.ln o.lc, .int .i64 o.six, .int .i64 o.stm, .slice o.sp o.sn o.sc] 83)).heap.size = w.heap.size + 1 := World.size_alloc _ _
  have hb1 : Below (w.alloc (.cells #[.int .i64 o.kd, .int .i64 o.a, .int .i64 o.b, .int .i64 o.m.kd, .int .i64 o.m.fr, .int .i64 o.m.tq, .int .i64 o.m.tm, .int .i64 o.m.ix, .int .i64 o.m.lt, .int .i64 o.m.cm, .int .i64 o.m.rd, .bool o.m.ok, .bool o.x.dn, .slice o.x.pe o.m.en.length o.x.ce, .slice o.x.pm o.x.nm o.x.cm, .int .i64 o.x.of, .slice o.x.pp o.x.np o.x.cp, .string o.st, .slice o.lp o.ln o.lc, .int .i64 o.six, .int .i64 o.stm, .slice o.sp o.sn o.sc] 83)).heap.size (w.alloc (.cells #[.int .i64 o.kd, .int .i64 o.a, .int .i64 o.b, .int .i64 o.m.kd, .int .i64 o.m.fr, .int .i64 o.m.tq, .int .i64 o.m.tm, .int .i64 o.m.ix, .int .i64 o.m.lt, .int .i64 o.m.cm, .int .i64 o.m.rd, .bool o.m.ok, .bool o.x.dn, .slice o.x.pe o.m.en.length o.x.ce, .slice o.x.pm o.x.nm o.x.cm, .int .i64 o.x.of, .slice o.x.pp o.x.np o.x.cp, .string o.st, .slice o.lp o.ln o.lc, .int .i64 o.six, .int .i64 o.stm, .slice o.sp o.sn o.sc] 83)) ((w.alloc (.cells #[.int .i64 o.kd, .int .i64 o.a, .int .i64 o.b, .int .i64 o.m.kd, .int .i64 o.m.fr, .int .i64 o.m.tq, .int .i64 o.m.tm, .int .i64 o.m.ix, .int .i64 o.m.lt, .int .i64 o.m.cm, .int .i64 o.m.rd, .bool o.m.ok, .bool o.x.dn, .slice o.x.pe o.m.en.length o.x.ce, .slice o.x.pm o.x.nm o.x.cm, .int .i64 o.x.of, .slice o.x.pp o.x.np o.x.cp, .string o.st, .slice o.lp o.ln o.lc, .int .i64 o.six, .int .i64 o.stm, .slice o.sp o.sn o.sc] 83)).alloc (.cells #[.slice none 0 0, .bool false, .int .i64 0, .slice none 0 0] 37)) := (Below.refl _ _).alloc (Nat.le_refl _) _
  have X1 := CBox.fresh (w.alloc (.cells #[.int .i64 o.kd, .int .i64 o.a, .int .i64 o.b, .int .i64 o.m.kd, .int .i64 o.m.fr, .int .i64 o.m.tq, .int .i64 o.m.tm, .int .i64 o.m.ix, .int .i64 o.m.lt, .int .i64 o.m.cm, .int .i64 o.m.rd, .bool o.m.ok, .bool o.x.dn, .slice o.x.pe o.m.en.length o.x.ce, .slice o.x.pm o.x.nm o.x.cm, .int .i64 o.x.of, .slice o.x.pp o.x.np o.x.cp, .string o.st, .slice o.lp o.ln o.lc, .int .i64 o.six, .int .i64 o.stm, .slice o.sp o.sn o.sc] 83)) [.slice none 0 0, .bool false, .int .i64 0, .slice none 0 0] 37
  have hs1 : ((w.alloc (.cells #[.int .i64 o.kd, .int .i64 o.a, .int .i64 o.b, .int .i64 o.m.kd, .int .i64 o.m.fr, .int .i64 o.m.tq, .int .i64 o.m.tm, .int .i64 o.m.ix, .int .i64 o.m.lt, .int .i64 o.m.cm, .int .i64 o.m.rd, .bool o.m.ok, .bool o.x.dn, .slice o.x.pe o.m.en.length o.x.ce, .slice o.x.pm o.x.nm o.x.cm, .int .i64 o.x.of, .slice o.x.pp o.x.np o.x.cp, .string o.st, .slice o.lp o.ln o.lc, .int .i64 o.six, .int .i64 o.stm, .slice o.sp o.sn o.sc] 83)).alloc (.cells #[.slice none 0 0, .bool false, .int .i64 0, .slice none 0 0] 37)).heap.size = (w.alloc (.cells #[.int .i64 o.kd, .int .i64 o.a, .int .i64 o.b, .int .i64 o.m.kd, .int .i64 o.m.fr, .int .i64 o.m.tq, .int .i64 o.m.tm, .int .i64 o.m.ix, .int .i64 o.m.lt, .int .i64 o.m.cm, .int .i64 o.m.rd, .bool o.m.ok, .bool o.x.dn, .slice o.x.pe o.m.en.length o.x.ce, .slice o.x.pm o.x.nm o.x.cm, .int .i64 o.x.of, .slice o.x.pp o.x.np o.x.cp, .string o.st, .slice o.lp o.ln o.lc, .int .i64 o.six, .int .i64 o.stm, .slice o.sp o.sn o.sc] 83)).heap.size + 1 := World.size_alloc _ _
  have HH := Lib.hid H
  have hrl := H.rlt
  have HLT := Lib.hid (fun k (hk : Fo rb h k) => (H.lt hk).2)
  have HBB := Lib.hid B
  have HEE := Lib.hid E
  have HCL := Lib.hid hcl
  have HOU := Lib.hid hout
  have HMS1 := Lib.hid HMS
  have HOF := Lib.hid hoff
  have HI := Lib.hid hi
  have HS0 : Hid (s.hearS o ms = if o.kd = 1 then s.tick0 o.a
  else if o.kd = 3 then (if s.propE 1 o.st = 0 then s.prop0 1 o.st else s)
  else if o.kd = 5 then (if s.askE = 0 then s.ask0 else s)
  else if o.kd = 7 then (if s.restOk o.six o.stm ms then s.rest o.six o.stm ms else s)
  else if o.kd = 8 then s.appRes (sentM o.a o.b)
  else s.step o.m) := Lib.hid rfl
  clear H B hcl E hout HMS hoff hi
  go_enter Tryz.func35, Tryz.ntmps35
  go_upto_region 1 with fail
  dsimp only [List.toArray] at X0 X1
  generalize w.alloc (.cells #[.int .i64 o.kd, .int .i64 o.a, .int .i64 o.b, .int .i64 o.m.kd, .int .i64 o.m.fr, .int .i64 o.m.tq, .int .i64 o.m.tm, .int .i64 o.m.ix, .int .i64 o.m.lt, .int .i64 o.m.cm, .int .i64 o.m.rd, .bool o.m.ok, .bool o.x.dn, .slice o.x.pe o.m.en.length o.x.ce, .slice o.x.pm o.x.nm o.x.cm, .int .i64 o.x.of, .slice o.x.pp o.x.np o.x.cp, .string o.st, .slice o.lp o.ln o.lc, .int .i64 o.six, .int .i64 o.stm, .slice o.sp o.sn o.sc] 83) = Wa at *
  have X0 := X0.below hb1
  generalize Wa.alloc (.cells #[.slice none 0 0, .bool false, .int .i64 0, .slice none 0 0] 37) = W1 at *
  have HFIN : Hid (∀ (y : RS) (e : Ending) (w' W' : World), Ans rb base y h W1 e w' → Fr (fun k => k = Wa.heap.size) w' W' → Ans rb base y h w e W') := Lib.hid (fun y e w' W' hA hF => (Ans.boxed (HH.out.below hb0) hA hb1 hs1 hF).lower hb0)
  have HB1 := Lib.hid (hb0.trans (hb1.mono hb0.size))
  obtain ⟨b1, hb1e⟩ : ∃ b1, b1 = w.heap.size := ⟨_, rfl⟩
  obtain ⟨b2, hb2e⟩ : ∃ b2, b2 = Wa.heap.size := ⟨_, rfl⟩
  rw [← hb1e] at X0 hrl ⊢
  rw [← hb2e] at X1 HFIN
  have hb2' : b1 + 1 = b2 := by omega
  rw [hb2']
  have HE12 : Hid (b1 = w.heap.size ∧ b2 = w.heap.size + 1 ∧ b2 < W1.heap.size) := Lib.hid ⟨hb1e, by omega, by omega⟩
  have HNF : Hid (¬ Fo rb h b2) := Lib.hid (fun e => by have := HLT.out _ e; omega)
  have HX1 := Lib.hid X0
  have HX2 := Lib.hid X1
  have HR1 := Lib.hid (HH.out.below HB1.out)
  have HE1 := Lib.hid (HEE.out.below HB1.out)
  have HM1 := Lib.hid ((HMS1.out.below HB1.out).more HB1.out.size)
  clear X0 X1 hb0 hb1 hs0 hs1 hb1e hb2e HEE HMS1
  have a0 : W1.cell? ⟨b1, 0, none⟩ = some (.int .i64 o.kd) := HX1.out.1 0 _ rfl
  have hkk : o.kd ≠ 6 := hk6
  clear hk6
  by_cases h1 : o.kd = 1
  case pos =>
    have HST : Hid (s.hearS o ms = s.tick0 o.a) := Lib.hid (by rw [HS0.out, if_pos h1])
    rw [h1] at a0
    have a1 : W1.cell? ⟨b1, 1, none⟩ = some (.int .i64 o.a) := HX1.out.1 1 _ rfl
    have HC := Lib.hid (rf_tick o.a (bounds_i64 HI.out.1.1).1 (bounds_i64 HI.out.1.1).2 HR1.out HBB.out (by omega) (by omega) HCL.out HOU.out hel)
    clear h1 HS0 hkk
    go_wp2_with fail
    with_reducible refine (HC.out).mono ?_
    intro e w9 hA
    have HA := Lib.hid hA
    obtain ⟨p1, n1, k1, p2, n2, k2, rfl⟩ := hA.form
    have hx9 : CBox b2 [.slice none 0 0, .bool false, .int .i64 0, .slice none 0 0] w9 := by
      obtain ⟨_, _, _, _, _, hp9, _⟩ := hA
      exact HX2.out.keep hp9.1 HNF.out
    have t0 := hx9.1 0 _ rfl
    have t1 := hx9.1 1 _ rfl
    have t2 := hx9.1 2 _ rfl
    have t3 := hx9.1 3 _ rfl
    have u0 := hx9.2.1 0 (by show 0 < 4; omega)
    have u1 := hx9.2.1 1 (by show 1 < 4; omega)
    have u2 := hx9.2.1 2 (by show 2 < 4; omega)
    have u3 := hx9.2.1 3 (by show 3 < 4; omega)
    clear hA hx9 HC
    go_wp2_with fail
    all_goals (
      refine bodyPost_ret (results_cell1 rfl _ _ _ ⟨b2, 0, none⟩ (.agg #[.slice p1 n1 k1, .bool (s.tick0 o.a).out.hd, .int .i64 (s.tick0 o.a).out.fr, .slice p2 n2 k2]) rfl (by go_simp)) rfl ?_
      rw [HST.out]
      exact HFIN.out _ _ _ _ HA.out (((((Fr.refl (fun k => k = b2) w9).setCell (p := ⟨b2, 0, none⟩) (fun _ => rfl) _).setCell (p := ⟨b2, 1, none⟩) (fun _ => rfl) _).setCell (p := ⟨b2, 2, none⟩) (fun _ => rfl) _ |>.setCell (p := ⟨b2, 3, none⟩) (fun _ => rfl) _)))
  case neg =>
  have d1 : (o.kd == 1) = false := by simp [h1]
  by_cases h3 : o.kd = 3
  case pos =>
    have HST : Hid (s.hearS o ms = if s.propE 1 o.st = 0 then s.prop0 1 o.st else s) := Lib.hid (by rw [HS0.out, if_neg h1, if_pos h3])
    rw [h3] at a0
    have a17 : W1.cell? ⟨b1, 17, none⟩ = some (.string o.st) := HX1.out.1 17 _ rfl
    have HC := Lib.hid (rf_prop 1 o.st HR1.out HBB.out (by omega) (by omega) HCL.out HOU.out (by omega))
    clear h1 h3 HS0 hkk d1
    go_upto_region 5 with fail
    go_wp2_with fail
    with_reducible refine (HC.out).mono ?_
    rintro e w8 ⟨v, rfl, hA⟩
    generalize hzz : (if s.propE 1 o.st = 0 then s.prop0 1 o.st else s) = z at *
    clear hzz
    obtain ⟨p1, n1, k1, p2, n2, k2, hv⟩ := hA.form
    injection hv with hv
    subst hv
    have hx8 : CBox b2 [.slice none 0 0, .bool false, .int .i64 0, .slice none 0 0] w8 := by
      obtain ⟨_, _, _, _, _, hp9, _⟩ := hA
      exact HX2.out.keep hp9.1 HNF.out
    have hsz8 : W1.heap.size ≤ w8.heap.size := by
      obtain ⟨_, _, _, _, _, hp9, _⟩ := hA
      exact hp9.1.size
    have HX8 := Lib.hid hx8
    have HA8 := Lib.hid hA
    have HSZ8 := Lib.hid hsz8
    clear hA hx8 HC hsz8
    go_upto_region 6 with fail
    have X9 := CBox.fresh w8 [.slice p1 n1 k1, .bool z.out.hd, .int .i64 z.out.fr, .slice p2 n2 k2] 37
    have hb9 : Below w8.heap.size w8 (w8.alloc (.cells #[.slice p1 n1 k1, .bool z.out.hd, .int .i64 z.out.fr, .slice p2 n2 k2] 37)) := (Below.refl _ w8).alloc (Nat.le_refl _) _
    dsimp only [List.toArray] at X9
    generalize w8.alloc (.cells #[.slice p1 n1 k1, .bool z.out.hd, .int .i64 z.out.fr, .slice p2 n2 k2] 37) = w9 at *
    have HA := Lib.hid (HA8.out.later hb9)
    have hx9 := HX8.out.below hb9
    have hb62 : w8.heap.size ≠ b2 := by have h8 := HSZ8.out; have h9 := HE12.out.2.2; omega
    have hb26 : b2 ≠ w8.heap.size := fun e => hb62 e.symm
    generalize w8.heap.size = b6 at X9 hb62 hb26 ⊢
    have v0 := X9.1 0 _ rfl
    have v1 := X9.1 1 _ rfl
    have v2 := X9.1 2 _ rfl
    have v3 := X9.1 3 _ rfl
    have t0 := hx9.1 0 _ rfl
    have t1 := hx9.1 1 _ rfl
    have t2 := hx9.1 2 _ rfl
    have t3 := hx9.1 3 _ rfl
    have u0 := hx9.2.1 0 (by show 0 < 4; omega)
    have u1 := hx9.2.1 1 (by show 1 < 4; omega)
    have u2 := hx9.2.1 2 (by show 2 < 4; omega)
    have u3 := hx9.2.1 3 (by show 3 < 4; omega)
    clear hx9 X9 hb9 HA8 HX8 HSZ8
    go_wp2_with fail
    all_goals (
      refine bodyPost_ret (results_cell1 rfl _ _ _ ⟨b2, 0, none⟩ (.agg #[.slice p1 n1 k1, .bool z.out.hd, .int .i64 z.out.fr, .slice p2 n2 k2]) rfl (by go_simp)) rfl ?_
      rw [HST.out]
      exact HFIN.out _ _ _ _ HA.out (((((Fr.refl (fun k => k = b2) w9).setCell (p := ⟨b2, 0, none⟩) (fun _ => rfl) _).setCell (p := ⟨b2, 1, none⟩) (fun _ => rfl) _).setCell (p := ⟨b2, 2, none⟩) (fun _ => rfl) _ |>.setCell (p := ⟨b2, 3, none⟩) (fun _ => rfl) _)))
  case neg =>
  have d3 : (o.kd == 3) = false := by simp [h3]
  by_cases h5 : o.kd = 5
  case pos =>
    have HST : Hid (s.hearS o ms = if s.askE = 0 then s.ask0 else s) := Lib.hid (by rw [HS0.out, if_neg h1, if_neg h3, if_pos h5])
    rw [h5] at a0
    have HC := Lib.hid (rf_ask HR1.out HBB.out HCL.out HOU.out)
    clear h1 h3 h5 HS0 hkk d1 d3
    go_upto_region 8 with fail
    go_wp2_with fail
    with_reducible refine (HC.out).mono ?_
    rintro e w8 ⟨v, rfl, hA⟩
    generalize hzz : (if s.askE = 0 then s.ask0 else s) = z at *
    clear hzz
    obtain ⟨p1, n1, k1, p2, n2, k2, hv⟩ := hA.form
    injection hv with hv
    subst hv
    have hx8 : CBox b2 [.slice none 0 0, .bool false, .int .i64 0, .slice none 0 0] w8 := by
      obtain ⟨_, _, _, _, _, hp9, _⟩ := hA
      exact HX2.out.keep hp9.1 HNF.out
    have hsz8 : W1.heap.size ≤ w8.heap.size := by
      obtain ⟨_, _, _, _, _, hp9, _⟩ := hA
      exact hp9.1.size
    have HX8 := Lib.hid hx8
    have HA8 := Lib.hid hA
    have HSZ8 := Lib.hid hsz8
    clear hA hx8 HC hsz8
    go_upto_region 9 with fail
    have X9 := CBox.fresh w8 [.slice p1 n1 k1, .bool z.out.hd, .int .i64 z.out.fr, .slice p2 n2 k2] 37
    have hb9 : Below w8.heap.size w8 (w8.alloc (.cells #[.slice p1 n1 k1, .bool z.out.hd, .int .i64 z.out.fr, .slice p2 n2 k2] 37)) := (Below.refl _ w8).alloc (Nat.le_refl _) _
    dsimp only [List.toArray] at X9
    generalize w8.alloc (.cells #[.slice p1 n1 k1, .bool z.out.hd, .int .i64 z.out.fr, .slice p2 n2 k2] 37) = w9 at *
    have HA := Lib.hid (HA8.out.later hb9)
    have hx9 := HX8.out.below hb9
    have hb62 : w8.heap.size ≠ b2 := by have h8 := HSZ8.out; have h9 := HE12.out.2.2; omega
    have hb26 : b2 ≠ w8.heap.size := fun e => hb62 e.symm
    generalize w8.heap.size = b6 at X9 hb62 hb26 ⊢
    have v0 := X9.1 0 _ rfl
    have v1 := X9.1 1 _ rfl
    have v2 := X9.1 2 _ rfl
    have v3 := X9.1 3 _ rfl
    have t0 := hx9.1 0 _ rfl
    have t1 := hx9.1 1 _ rfl
    have t2 := hx9.1 2 _ rfl
    have t3 := hx9.1 3 _ rfl
    have u0 := hx9.2.1 0 (by show 0 < 4; omega)
    have u1 := hx9.2.1 1 (by show 1 < 4; omega)
    have u2 := hx9.2.1 2 (by show 2 < 4; omega)
    have u3 := hx9.2.1 3 (by show 3 < 4; omega)
    clear hx9 X9 hb9 HA8 HX8 HSZ8
    go_wp2_with fail
    all_goals (
      refine bodyPost_ret (results_cell1 rfl _ _ _ ⟨b2, 0, none⟩ (.agg #[.slice p1 n1 k1, .bool z.out.hd, .int .i64 z.out.fr, .slice p2 n2 k2]) rfl (by go_simp)) rfl ?_
      rw [HST.out]
      exact HFIN.out _ _ _ _ HA.out (((((Fr.refl (fun k => k = b2) w9).setCell (p := ⟨b2, 0, none⟩) (fun _ => rfl) _).setCell (p := ⟨b2, 1, none⟩) (fun _ => rfl) _).setCell (p := ⟨b2, 2, none⟩) (fun _ => rfl) _ |>.setCell (p := ⟨b2, 3, none⟩) (fun _ => rfl) _)))
  case neg =>
  have d5 : (o.kd == 5) = false := by simp [h5]
  have d6 : (o.kd == 6) = false := by simp [hkk]
  by_cases h7 : o.kd = 7
  case pos =>
    have HST : Hid (s.hearS o ms = if s.restOk o.six o.stm ms then s.rest o.six o.stm ms else s) := Lib.hid (by rw [HS0.out, if_neg h1, if_neg h3, if_neg h5, if_pos h7])
    rw [h7] at a0
    have a19 : W1.cell? ⟨b1, 19, none⟩ = some (.int .i64 o.six) := HX1.out.1 19 _ rfl
    have a20 : W1.cell? ⟨b1, 20, none⟩ = some (.int .i64 o.stm) := HX1.out.1 20 _ rfl
    have a21 : W1.cell? ⟨b1, 21, none⟩ = some (.slice o.sp o.sn o.sc) := HX1.out.1 21 _ rfl
    have HC := Lib.hid (rf_restore o.six o.stm ms o.sp o.sc HR1.out HBB.out (by omega) (bounds_i64 HI.out.1.2.2).1 HCL.out HOU.out (by rw [hmn]; exact HM1.out) (by rw [hmn]; exact HOF.out))
    rw [hmn] at HC
    clear h1 h3 h5 h7 HS0 hkk d1 d3 d5 d6
    go_upto_region 14 with fail
    go_wp2_with fail
    with_reducible refine (HC.out).mono ?_
    rintro e w8 ⟨v, rfl, hA⟩
    generalize hzz : (if s.restOk o.six o.stm ms then s.rest o.six o.stm ms else s) = z at *
    clear hzz
    obtain ⟨p1, n1, k1, p2, n2, k2, hv⟩ := hA.form
    injection hv with hv
    subst hv
    have hx8 : CBox b2 [.slice none 0 0, .bool false, .int .i64 0, .slice none 0 0] w8 := by
      obtain ⟨_, _, _, _, _, hp9, _⟩ := hA
      exact HX2.out.keep hp9.1 HNF.out
    have hsz8 : W1.heap.size ≤ w8.heap.size := by
      obtain ⟨_, _, _, _, _, hp9, _⟩ := hA
      exact hp9.1.size
    have HX8 := Lib.hid hx8
    have HA8 := Lib.hid hA
    have HSZ8 := Lib.hid hsz8
    clear hA hx8 HC hsz8
    go_upto_region 15 with fail
    have X9 := CBox.fresh w8 [.slice p1 n1 k1, .bool z.out.hd, .int .i64 z.out.fr, .slice p2 n2 k2] 37
    have hb9 : Below w8.heap.size w8 (w8.alloc (.cells #[.slice p1 n1 k1, .bool z.out.hd, .int .i64 z.out.fr, .slice p2 n2 k2] 37)) := (Below.refl _ w8).alloc (Nat.le_refl _) _
    dsimp only [List.toArray] at X9
    generalize w8.alloc (.cells #[.slice p1 n1 k1, .bool z.out.hd, .int .i64 z.out.fr, .slice p2 n2 k2] 37) = w9 at *
    have HA := Lib.hid (HA8.out.later hb9)
    have hx9 := HX8.out.below hb9
    have hb62 : w8.heap.size ≠ b2 := by have h8 := HSZ8.out; have h9 := HE12.out.2.2; omega
    have hb26 : b2 ≠ w8.heap.size := fun e => hb62 e.symm
    generalize w8.heap.size = b6 at X9 hb62 hb26 ⊢
    have v0 := X9.1 0 _ rfl
    have v1 := X9.1 1 _ rfl
    have v2 := X9.1 2 _ rfl
    have v3 := X9.1 3 _ rfl
    have t0 := hx9.1 0 _ rfl
    have t1 := hx9.1 1 _ rfl
    have t2 := hx9.1 2 _ rfl
    have t3 := hx9.1 3 _ rfl
    have u0 := hx9.2.1 0 (by show 0 < 4; omega)
    have u1 := hx9.2.1 1 (by show 1 < 4; omega)
    have u2 := hx9.2.1 2 (by show 2 < 4; omega)
    have u3 := hx9.2.1 3 (by show 3 < 4; omega)
    clear hx9 X9 hb9 HA8 HX8 HSZ8
    go_wp2_with fail
    all_goals (
      refine bodyPost_ret (results_cell1 rfl _ _ _ ⟨b2, 0, none⟩ (.agg #[.slice p1 n1 k1, .bool z.out.hd, .int .i64 z.out.fr, .slice p2 n2 k2]) rfl (by go_simp)) rfl ?_
      rw [HST.out]
      exact HFIN.out _ _ _ _ HA.out (((((Fr.refl (fun k => k = b2) w9).setCell (p := ⟨b2, 0, none⟩) (fun _ => rfl) _).setCell (p := ⟨b2, 1, none⟩) (fun _ => rfl) _).setCell (p := ⟨b2, 2, none⟩) (fun _ => rfl) _ |>.setCell (p := ⟨b2, 3, none⟩) (fun _ => rfl) _)))
  case neg =>
  have d7 : (o.kd == 7) = false := by simp [h7]
  by_cases h8 : o.kd = 8
  case pos =>
    have HST : Hid (s.hearS o ms = s.appRes (sentM o.a o.b)) := Lib.hid (by rw [HS0.out, if_neg h1, if_neg h3, if_neg h5, if_neg h7, if_pos h8])
    rw [h8] at a0
    have a1 : W1.cell? ⟨b1, 1, none⟩ = some (.int .i64 o.a) := HX1.out.1 1 _ rfl
    have a2 : W1.cell? ⟨b1, 2, none⟩ = some (.int .i64 o.b) := HX1.out.1 2 _ rfl
    have HC := Lib.hid (rf_sent o.a o.b HR1.out HBB.out (bounds_i64 HI.out.1.2.1).1 HCL.out HOU.out)
    generalize s.appRes (sentM o.a o.b) = z at *
    clear h1 h3 h5 h7 h8 HS0 hkk d1 d3 d5 d6 d7
    go_wp2_with fail
    with_reducible refine (HC.out).mono ?_
    intro e w9 hA
    have HA := Lib.hid hA
    obtain ⟨p1, n1, k1, p2, n2, k2, rfl⟩ := hA.form
    have hx9 : CBox b2 [.slice none 0 0, .bool false, .int .i64 0, .slice none 0 0] w9 := by
      obtain ⟨_, _, _, _, _, hp9, _⟩ := hA
      exact HX2.out.keep hp9.1 HNF.out
    have t0 := hx9.1 0 _ rfl
    have t1 := hx9.1 1 _ rfl
    have t2 := hx9.1 2 _ rfl
    have t3 := hx9.1 3 _ rfl
    have u0 := hx9.2.1 0 (by show 0 < 4; omega)
    have u1 := hx9.2.1 1 (by show 1 < 4; omega)
    have u2 := hx9.2.1 2 (by show 2 < 4; omega)
    have u3 := hx9.2.1 3 (by show 3 < 4; omega)
    clear hA hx9 HC
    go_wp2_with fail
    all_goals (
      refine bodyPost_ret (results_cell1 rfl _ _ _ ⟨b2, 0, none⟩ (.agg #[.slice p1 n1 k1, .bool z.out.hd, .int .i64 z.out.fr, .slice p2 n2 k2]) rfl (by go_simp)) rfl ?_
      rw [HST.out]
      exact HFIN.out _ _ _ _ HA.out (((((Fr.refl (fun k => k = b2) w9).setCell (p := ⟨b2, 0, none⟩) (fun _ => rfl) _).setCell (p := ⟨b2, 1, none⟩) (fun _ => rfl) _).setCell (p := ⟨b2, 2, none⟩) (fun _ => rfl) _ |>.setCell (p := ⟨b2, 3, none⟩) (fun _ => rfl) _)))
  case neg =>
  have d8 : (o.kd == 8) = false := by simp [h8]
  have HST : Hid (s.hearS o ms = s.step o.m) := Lib.hid (by rw [HS0.out, if_neg h1, if_neg h3, if_neg h5, if_neg h7, if_neg h8])
  have HC := Lib.hid (rf_step o.m o.x HR1.out HBB.out (by omega) hN hvt HCL.out HOU.out HE1.out (bounds_i64 HI.out.2).1 (bounds_i64 HI.out.2).2)
  unfold mxval at HC
  have a3 : W1.cell? ⟨b1, 3, none⟩ = some (.int .i64 o.m.kd) := HX1.out.1 3 _ rfl
  have a4 : W1.cell? ⟨b1, 3 + 1, none⟩ = some (.int .i64 o.m.fr) := HX1.out.1 4 _ rfl
  have a5 : W1.cell? ⟨b1, 3 + 2, none⟩ = some (.int .i64 o.m.tq) := HX1.out.1 5 _ rfl
  have a6 : W1.cell? ⟨b1, 3 + 3, none⟩ = some (.int .i64 o.m.tm) := HX1.out.1 6 _ rfl
  have a7 : W1.cell? ⟨b1, 3 + 4, none⟩ = some (.int .i64 o.m.ix) := HX1.out.1 7 _ rfl
  have a8 : W1.cell? ⟨b1, 3 + 5, none⟩ = some (.int .i64 o.m.lt) := HX1.out.1 8 _ rfl
  have a9 : W1.cell? ⟨b1, 3 + 6, none⟩ = some (.int .i64 o.m.cm) := HX1.out.1 9 _ rfl
  have a10 : W1.cell? ⟨b1, 3 + 7, none⟩ = some (.int .i64 o.m.rd) := HX1.out.1 10 _ rfl
  have a11 : W1.cell? ⟨b1, 3 + 8, none⟩ = some (.bool o.m.ok) := HX1.out.1 11 _ rfl
  have a12 : W1.cell? ⟨b1, 3 + 9, none⟩ = some (.bool o.x.dn) := HX1.out.1 12 _ rfl
  have a13 : W1.cell? ⟨b1, 3 + 10, none⟩ = some (.slice o.x.pe o.m.en.length o.x.ce) := HX1.out.1 13 _ rfl
  have a14 : W1.cell? ⟨b1, 3 + 11, none⟩ = some (.slice o.x.pm o.x.nm o.x.cm) := HX1.out.1 14 _ rfl
  have a15 : W1.cell? ⟨b1, 3 + 12, none⟩ = some (.int .i64 o.x.of) := HX1.out.1 15 _ rfl
  have a16 : W1.cell? ⟨b1, 3 + 13, none⟩ = some (.slice o.x.pp o.x.np o.x.cp) := HX1.out.1 16 _ rfl
  clear h1 h3 h5 h7 h8 HS0 hkk
  generalize s.step o.m = z at *
  go_wp2_with fail
  with_reducible refine (HC.out).mono ?_
  intro e w9 hA
  have HA := Lib.hid hA
  obtain ⟨p1, n1, k1, p2, n2, k2, rfl⟩ := hA.form
  have hx9 : CBox b2 [.slice none 0 0, .bool false, .int .i64 0, .slice none 0 0] w9 := by
    obtain ⟨_, _, _, _, _, hp9, _⟩ := hA
    exact HX2.out.keep hp9.1 HNF.out
  have t0 := hx9.1 0 _ rfl
  have t1 := hx9.1 1 _ rfl
  have t2 := hx9.1 2 _ rfl
  have t3 := hx9.1 3 _ rfl
  have u0 := hx9.2.1 0 (by show 0 < 4; omega)
  have u1 := hx9.2.1 1 (by show 1 < 4; omega)
  have u2 := hx9.2.1 2 (by show 2 < 4; omega)
  have u3 := hx9.2.1 3 (by show 3 < 4; omega)
  clear hA hx9 HC
  go_wp2_with fail
  all_goals (
    refine bodyPost_ret (results_cell1 rfl _ _ _ ⟨b2, 0, none⟩ (.agg #[.slice p1 n1 k1, .bool z.out.hd, .int .i64 z.out.fr, .slice p2 n2 k2]) rfl (by go_simp)) rfl ?_
    rw [HST.out]
    exact HFIN.out _ _ _ _ HA.out (((((Fr.refl (fun k => k = b2) w9).setCell (p := ⟨b2, 0, none⟩) (fun _ => rfl) _).setCell (p := ⟨b2, 1, none⟩) (fun _ => rfl) _).setCell (p := ⟨b2, 2, none⟩) (fun _ => rfl) _ |>.setCell (p := ⟨b2, 3, none⟩) (fun _ => rfl) _)))
end
end RF
end Go.Proofs.YtaodldagmmephaaGreat

/- arboretumlaw20.RaftTells: its state; what it may ask of each call, plain; its arguments opened. -/
namespace Go.Proofs.YtaodldagmmephaaGreat
open Go.ChangeShapes Go.WideShapes Go.ChangeAt Go.RowKit Go.Deep
namespace RF
def MB (k : Nat) : Int := ((1099511627776 + 40 * k : Nat) : Int)
def NB (k : Nat) : Nat := 40 * k + 40
/-- A core between two steps of the laws. -/
structure Th (k : Nat) (s : RS) : Prop where
  bd : RB (MB k) (NB k) s
  out : s.out = ot0
  ev : Ev (k + 1) s
  id : s.id = 1
section
variable {s : RS} {M : Int} {N k : Nat}
theorem RB.stepN (B : RB M N s) (m : Mg) (hM : M + (max m.en.length 1 : Nat) ≤ 4503599627370496) (hN : N + max m.en.length 1 ≤ 10000) (hda : ∀ e ∈ m.en, e.da.size ≤ 2000000) : RB (M + (max m.en.length 1 : Nat)) (N + max m.en.length 1) (s.step m) := by
  unfold RS.step
  split
  · rename_i hh
    exact (B.step0 m (max m.en.length 1) (by omega) (by omega) hM hN hda hh.2.2.2.2.2.2.2).1
  · exact B.mono (by omega) hM (by omega) hN
theorem hear_told (T : Th k s) (hk : k < 200) (o : OpL) (ms : List Int) (hen : o.m.en.length ≤ 40) (hda : ∀ e ∈ o.m.en, e.da.size ≤ 12000) (hst : o.st.size ≤ 3000) (hsx : o.six ≤ 1099511627776) :
    Th (k + 1) (s.hearS o ms).fin ∧ (o.kd ≠ 7 → Gh s (s.hearS o ms)) ∧ Gl s (s.hearS o ms) ∧ Say (s.hearS o ms) ∧ (s.hearS o ms).id = 1 := by
  have hM1 : MB k < 4503599627370496 := by unfold MB; omega
  have hN1 : NB k < 10000 := by unfold NB; omega
  have hMN : MB k + 40 = MB (k + 1) ∧ NB k + 40 = NB (k + 1) := ⟨by unfold MB; omega, by unfold NB; omega⟩
  have hM2 : MB (k + 1) ≤ 4503599627370496 := by unfold MB; omega
  have hN2 : NB (k + 1) ≤ 10000 := by unfold NB; omega
  have hsx2 : o.six ≤ MB k := by unfold MB; omega
  have main : ∀ z : RS, Told s z (k + 2) → RB (MB (k + 1)) (NB (k + 1)) z → Th (k + 1) z.fin ∧ (o.kd ≠ 7 → Gh s z) ∧ Gl s z ∧ Say z ∧ z.id = 1 := fun z h B =>
    ⟨⟨B.fin, rfl, h.ev, h.gh.id.trans T.id⟩, fun _ => h.gh, h.gl, h.say, h.gh.id.trans T.id⟩
  unfold RS.hearS
  split
  · exact main _ ((tick_told T.out T.bd T.ev (by omega) hM1 hN1 o.a).mono (by omega)) ((T.bd.tick0 o.a hM1 hN1).mono (by omega) hM2 (by omega) hN2)
  split
  · exact main _ ((prop_told T.out T.bd T.ev 1 (da := o.st) (by omega) hM1 hN1).mono (by omega)) ((T.bd.propS 1 (da := o.st) (by omega) hM1 hN1).mono (by omega) hM2 (by omega) hN2)
  split
  · refine main _ ((ask_told T.out T.bd T.ev).mono (by omega)) ?_
    have hb : RB (MB k) (NB k) (if s.askE = 0 then s.ask0 else s) := by
      split
      · exact T.bd.round1.sendAll
      · exact T.bd
    exact hb.mono (by omega) hM2 (by omega) hN2
  split
  · rename_i h7
    have h := rest_told T.out T.bd T.ev o.six o.stm ms
    have hb : RB (MB k) (NB k) (if s.restOk o.six o.stm ms then s.rest o.six o.stm ms else s) := by
      split
      · rename_i hok
        exact T.bd.rest hok (by omega) hsx2
      · exact T.bd
    have hid : (if s.restOk o.six o.stm ms then s.rest o.six o.stm ms else s).id = 1 := by
      split
      · have h1 : (s.rest1 o.six o.stm).id = s.id := by
          unfold RS.rest1
          split
          · split <;> rfl
          · rfl
        unfold RS.rest RS.changed
        split
        · exact h1.trans T.id
        · exact h1.trans T.id
      · exact T.id
    exact ⟨⟨(hb.mono (by omega) hM2 (by omega) hN2).fin, rfl, h.2.2.mono (by omega), hid⟩, fun h => absurd h7 h, h.1, h.2.1, hid⟩
  split
  · exact main _ ((sent_told T.out T.bd T.ev (sentM o.a o.b)).mono (by omega)) ((T.bd.appRes (sentM o.a o.b)).1.mono (by omega) hM2 (by omega) hN2)
  · exact main _ (step_told T.out T.bd T.ev o.m hM1 hN1) ((T.bd.stepN o.m (by omega) (by omega) (fun e he => by have := hda e he; omega)).mono (by omega) hM2 (by omega) hN2)
theorem th_new : newR 1 0 0 0 0 0 [1, 2, 3] [] ∧ Th 0 (new0 1 0 0 0 0 0 [1, 2, 3] []) := by
  have hv123 : CL.Valid [1, 2, 3] := (valid_iff _).1 (by decide)
  refine ⟨⟨by decide, ⟨by omega, by omega⟩, by omega, by omega, by omega, by omega, hv123, by decide⟩, ⟨?_, rfl, ⟨⟨Int.le_refl _, by show (0 : Int) ≤ _; omega⟩, Nat.zero_le _⟩, rfl⟩⟩
  exact ⟨⟨by show (1 : Int) ≤ 1; omega, by show (1 : Int) ≤ 64; omega⟩, by decide, by show (0 : Int) ≤ _; unfold MB; omega, by unfold MB; omega, Nat.zero_le _, by unfold NB; omega, (fun e he => absurd he List.not_mem_nil), hv123, (fun x hx => absurd hx List.not_mem_nil), List.nodup_nil, ⟨Int.le_refl _, by show (0 : Int) ≤ _; omega⟩, ⟨Int.le_refl _, by show (0 : Int) ≤ _; omega⟩, ⟨Int.le_refl _, by show (0 : Int) ≤ _; unfold MB; omega⟩, Int.le_refl _⟩
end
def icl1 (x : Int) : List Value := [.int .i64 x]
section
variable {H : Type} {enc : TypeId × Value → H} {w : World}
set_option maxRecDepth 100000 in
theorem elem_int1 : ∀ n cs' y, DataW.trod enc Tryz.prog w 0 (fun _ => true) true n 3 cs' = some y → ∃ x : Int, cs' = icl1 x ∧ True := by
  intro n cs' y h
  obtain ⟨x, rfl, _⟩ := DataW.trod_int Tryz.underlying3 h
  exact ⟨x, rfl, trivial⟩
theorem rdi_of_g {W : World} {B n : Nat} {p : Option Addr} {zs : List Int} (h : RdG icl1 W B p n zs) : RdI W B p n zs :=
  ⟨h.1, fun hn => by
    obtain ⟨b, o, e, hb, hc⟩ := h.2 hn
    refine ⟨b, o, e, hb, fun k hk => ?_⟩
    have h1 := rowOf_at icl1 (size := 1) (fun _ => rfl) zs k 0 (by rw [h.1]; exact hk) (by omega)
    rw [show k * 1 + 0 = k by omega] at h1
    exact hc k _ h1⟩
/-- A step of the laws, with the members of its snapshot. -/
def OpOk2 (o : OpL) (w : World) : Prop := OpOk o w ∧ ∃ ms : List Int, RdI w w.heap.size o.sp o.sn ms
set_option maxRecDepth 100000 in
theorem elem_lop2 : ∀ n cs' y, DataW.trod enc Tryz.prog w 0 (fun _ => true) true n 83 cs' = some y → ∃ o : OpL, cs' = opcells o ∧ OpOk2 o w := by
  intro n cs' y h
  obtain ⟨o, rfl, hok⟩ := elem_lop n cs' y h
  obtain ⟨hl, m, hf⟩ := struct_at Tryz.underlying83 h
  obtain ⟨z6, f6⟩ := hf 6 _ rfl
  change DataW.trod enc Tryz.prog w 0 (fun _ => true) true m 34 (List.take (Tryz.prog.cellsOf 34) [.int .i64 o.six, .int .i64 o.stm, .slice o.sp o.sn o.sc]) = some z6 at f6
  rw [size_api_Snap] at f6
  change DataW.trod enc Tryz.prog w 0 (fun _ => true) true m 34 [.int .i64 o.six, .int .i64 o.stm, .slice o.sp o.sn o.sc] = some z6 at f6
  obtain ⟨_, m2, hf2⟩ := struct_at Tryz.underlying34 f6
  obtain ⟨z2, f2⟩ := hf2 2 _ rfl
  change DataW.trod enc Tryz.prog w 0 (fun _ => true) true m2 32 (List.take (Tryz.prog.cellsOf 32) [.slice o.sp o.sn o.sc]) = some z2 at f2
  rw [size_lint] at f2
  change DataW.trod enc Tryz.prog w 0 (fun _ => true) true m2 32 [.slice o.sp o.sn o.sc] = some z2 at f2
  obtain ⟨ms, hms, _⟩ := open_rows icl1 (fun _ => rfl) (size := 1) (by omega) (fun _ => True) Tryz.underlying32 size_int elem_int1 f2
  exact ⟨o, rfl, hok, ms, rdi_of_g hms⟩
set_option maxRecDepth 100000 in
theorem open_lops2 {fuel : Nat} {p : Option Addr} {len cap : Nat} {x : DataW H × List MemPlace}
    (h : DataW.trod enc Tryz.prog w 0 (fun _ => true) true fuel 80 [.slice p len cap] = some x) : ∃ zs : List OpL, RdG opcells w w.heap.size p len zs ∧ ∀ z ∈ zs, OpOk2 z w :=
  open_rows opcells opcells_len (by omega) (fun z => OpOk2 z w) Tryz.underlying80 (by kernel_rfl) elem_lop2 h
end
end RF
end Go.Proofs.YtaodldagmmephaaGreat

/- arboretumlaw20: a law's core as its steps go on; single operations by hand. -/
namespace Go.Proofs.YtaodldagmmephaaGreat
open Go.RowKit Go.Maps
namespace RF
instance : Inhabited Mg := ⟨mg0⟩
/-- A law's core as its steps go on. -/
structure Ts (w : World) (rb B0 : Nat) (s : RS) (h : Hd) (k : Nat) (W : World) : Prop where
  cl : h.clean
  rf : Rf rb B0 s h W
  th : Th k s
  lo : w.heap.size ≤ B0
  bel : Below w.heap.size w W
section
variable {w : World} {rb B0 : Nat} {s : RS} {h : Hd} {k : Nat} {W W' : World}
theorem Ts.below (T : Ts w rb B0 s h k W) (hb : Below W.heap.size W W') : Ts w rb B0 s h k W' := ⟨T.cl, T.rf.below hb, T.th, T.lo, T.bel.trans (hb.mono T.bel.size)⟩
theorem Ts.step {s' : RS} {h' : Hd} {k' : Nat} (T : Ts w rb B0 s h k W) (hc : h'.clean) (hr : Rf rb B0 s' h' W') (hp : PS rb h h' W W') (ht : Th k' s') : Ts w rb B0 s' h' k' W' :=
  ⟨hc, hr, ht, T.lo, T.bel.trans (hp.1.below T.bel.size (fun _ hi => Nat.le_trans T.lo (T.rf.lt hi).1))⟩
theorem MsgOk.ens2 {m : Mg} {x : Mx} {W : World} (hok : MsgOk m x w) (hb : Below w.heap.size w W) (hda : ∀ e ∈ m.en, e.da.size ≤ 2000000) (H : Rf rb B0 s h W) (hlo : w.heap.size ≤ B0) : EnsAt rb h m x W :=
  ⟨(hok.at'.en.below hb).more hb.size, hok.ecap.1, hda, fun h0 g o e hf => by
    obtain ⟨b, o', e', hb', _⟩ := hok.at'.en.2 h0
    rw [e] at e'
    injection e' with e'
    injection e' with e1 _ _
    have := (H.lt hf).1
    omega⟩
end
theorem row_cell2 {α : Type} [Inhabited α] {cs : α → List Value} {size : Nat} (hs : ∀ x, (cs x).length = size) {W : World} {n b o : Nat} {l : List α} (hl : l.length = n) (hc : ∀ j u, (rowOf cs l)[j]? = some u → W.cell? ⟨b, o + j, none⟩ = some u) (k c : Nat) (hk : k < n) (u : Value) (hu : (cs (HL.el l k))[c]? = some u) (hcs : c < size) : W.cell? ⟨b, o + k * size + c, none⟩ = some u := by
  rw [Nat.add_assoc]
  refine hc (k * size + c) u ?_
  rw [rowOf_at cs hs l k c (by rw [hl]; exact hk) hcs]
  exact hu
theorem load_op2 (o : OpL) (b k : Nat) (W1 : World) (h : ∀ j u, (opcells o)[j]? = some u → W1.cell? ⟨b, k + j, none⟩ = some u) : (loadVar 83 ⟨b, k, none⟩).run Tryz.prog W1 = .ok (.agg (opcells o).toArray) W1 := by
  have h1 := run_loadCells_list (P := Tryz.prog) W1 ⟨b, k, none⟩ (opcells o) (fun j v hv => by
    have e : (⟨b, k, none⟩ : Addr).add j = ⟨b, k + j, none⟩ := add_at b k j
    rw [e]
    exact h j v hv)
  rw [opcells_len] at h1
  have ha : (isAgg 83).run Tryz.prog W1 = .ok true W1 := by kernel_rfl
  have hs : (sizeOf 83).run Tryz.prog W1 = .ok 22 W1 := by kernel_rfl
  unfold loadVar
  simp only [Sem.run_bind, ha, hs, h1, Result.andThen_ok, if_true, Sem.run_pure]
def vwL (s : RS) (v : Value) : List Value := [.int .i64 s.id, .int .i64 s.role, .int .i64 s.lead, .int .i64 s.term, .int .i64 s.vote, .int .i64 s.commit, .int .i64 s.b, .int .i64 (lastS s.b s.t s.l).1, .int .i64 (lastS s.b s.t s.l).2, .int .i64 s.elapsed, .int .i64 s.timeout, .int .i64 s.round, v]
theorem _root_.Go.Proofs.YtaodldagmmephaaGreat.wpE {P : Program} {ops : Array Oper} {rest : List Oper} {a : Act} {w : World} {Q : Exit → Act → World → Prop} {o : Oper} {v : Value} (hw : Region.wanted o (yielded ops a.tmps) = true) (e3 : (execOp a.eval o).run P w = .ok (.value v) w) (h : wpList P ops Q rest (a.put o.dst v) w) : wpList P ops Q (o :: rest) a w := by
  refine wpList_step fun K hK => ?_
  rw [if_pos hw]
  unfold Oper.wp
  rw [e3]
  simp only [Oper.upon]
  exact hK _ _ h
theorem _root_.Go.Proofs.YtaodldagmmephaaGreat.wpLd {P : Program} {ops : Array Oper} {rest : List Oper} {a : Act} {w : World} {Q : Exit → Act → World → Prop} {x : Operand} {d : Option Tmp} {t ty : TypeId} {pos : String} {af : Array Edge} {g : Option (Nat × Bool)} {ad : Addr} {v : Value} (hit : a.eval x = .pointer (some ad)) (hrun : (loadVar t ad).run P w = .ok v w) (hw : Region.wanted ⟨d, .load t x, ty, pos, af, g⟩ (yielded ops a.tmps) = true) (h : wpList P ops Q rest (a.put d v) w) : wpList P ops Q (⟨d, .load t x, ty, pos, af, g⟩ :: rest) a w := by
  refine wpE hw ?_ h
  simp [execOp, hit, hrun, Instr.loadAt, Instr.sureAddr, Result.andThen]
theorem below_dr {b : Nat} {w w' : World} (h : Below b w w') (n : Nat) : Below b w (w'.drewN n) := ⟨h.os, h.tape, h.output, h.size, h.block⟩
def outL (pq : Option Addr) (n cq : Nat) (hd : Bool) (fr : Int) (pn : Option Addr) (m cn : Nat) : List Value := [.slice pq n cq, .bool hd, .int .i64 fr, .slice pn m cn]
end RF
end Go.Proofs.YtaodldagmmephaaGreat

