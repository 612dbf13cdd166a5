/- Merged texts: Blk Rt4 Rt5 Rt6. -/
import Derived.Test.YtaodldagmmephaaGreatA1
import Derived.Test.YtaodldagmmephaaGreatC1
import Derived.Test.YtaodldagmmephaaGreatB5
import Derived.Test.YtaodldagmmephaaGreatB7
import Derived.Deep.DeepCutAuto
import Derived.Deep.CutBlock
import Derived.Deep.LoopGhost
/- Pieces of a function's code, by number. -/
namespace Go.Proofs.YtaodldagmmephaaGreat
/-- The block of a number in a function's code. -/
def blkOf2 (n : Nat) : Code → Option Code
  | .block id b => if id == n then some (.block id b) else blkOf2 n b
  | .seq a b => (blkOf2 n a).orElse fun _ => blkOf2 n b
  | .cond _ a b => (blkOf2 n a).orElse fun _ => blkOf2 n b
  | .loop b => blkOf2 n b
  | _ => none
theorem blk_body2 {o : Option Code} {n : Nat} {c : Code} (hc : o.bind (blkOf2 n) = some c) : ∃ d, o = some d ∧ blkOf2 n d = some c := by
  cases o with
  | none => cases hc
  | some d => exact ⟨d, rfl, hc⟩
def endsReg (n : Nat) : Code → Bool
  | .region id _ _ => id == n
  | _ => false
/-- What stands behind the region of a number. -/
def aftReg (n : Nat) : Code → Option Code
  | .seq a b => if endsReg n a then some b else (aftReg n a).orElse fun _ => aftReg n b
  | .block _ b => aftReg n b
  | .cond _ a b => (aftReg n a).orElse fun _ => aftReg n b
  | .loop b => aftReg n b
  | _ => none
theorem aft_body2 {o : Option Code} {n : Nat} {c : Code} (hc : o.bind (aftReg n) = some c) : ∃ d, o = some d ∧ aftReg n d = some c := by
  cases o with
  | none => cases hc
  | some d => exact ⟨d, rfl, hc⟩
def headReg (n : Nat) : Code → Bool
  | .region id _ _ => id == n
  | .seq a _ => headReg n a
  | _ => false
/-- What stands behind the statement (a test) that begins with the region of a number. -/
def aftTest (n : Nat) : Code → Option Code
  | .seq a b => match a with
    | .seq x (.cond _ _ _) => if headReg n x then some b else (aftTest n a).orElse fun _ => aftTest n b
    | _ => (aftTest n a).orElse fun _ => aftTest n b
  | .block _ b => aftTest n b
  | .cond _ a b => (aftTest n a).orElse fun _ => aftTest n b
  | .loop b => aftTest n b
  | _ => none
theorem aft_test {o : Option Code} {n : Nat} {c : Code} (hc : o.bind (aftTest n) = some c) : ∃ d, o = some d ∧ aftTest n d = some c := by
  cases o with
  | none => cases hc
  | some d => exact ⟨d, rfl, hc⟩
end Go.Proofs.YtaodldagmmephaaGreat

/- arboretumlaw20.hear: what a core is told. -/
namespace Go.Proofs.YtaodldagmmephaaGreat
open Go.RowKit Go.Maps
namespace RF
/-- What a core makes of a step of the laws (Compact left out). -/
def RS.hearS (s : RS) (o : OpL) (ms : List Int) : RS :=
  if o.kd = 1 then s.tick0 o.a
  else if o.kd = 3 then (if s.propE 1 o.st = 0 then s.prop0 1 o.st else s)
  else if o.kd = 5 then (if s.askE = 0 then s.ask0 else s)
  else if o.kd = 7 then (if s.restOk o.six o.stm ms then s.rest o.six o.stm ms else s)
  else if o.kd = 8 then s.appRes (sentM o.a o.b)
  else s.step o.m
section
variable {rb base : Nat} {s : RS} {h : Hd} {w : World} {M : Int} {N : Nat}
theorem Ans.later {h0 : Hd} {w' W' : World} {e : Ending} (A : Ans rb base s h0 w e w') (hb : Below w'.heap.size w' W') : Ans rb base s h0 w e W' := by
  obtain ⟨v, h', rfl, hc, hr, hp, ov, nv, mh, rfl, h1, h2, h3, h4, h5⟩ := A
  exact ⟨_, h', rfl, hc, hr.below hb, hp.trans (PS.still hb), ov, nv, mh, rfl, h1, (Fr.of_all (S := fun _ => False) hb).owns h2 (fun _ _ h => h), fun x hx => (Fr.of_all (S := fun _ => False) hb).owns (h3 x hx) (fun _ _ h => h), (Fr.of_all (S := fun _ => False) hb).owns h4 (fun _ _ h => h), h5⟩
set_option maxHeartbeats 2000000 in
set_option maxRecDepth 100000 in
theorem rf_hear (o : OpL) (ms : List Int) (H : Rf rb base s h w) (B : RB M N s) (hM : M + (max o.m.en.length 1 : Nat) < 4503599627370496) (hN : N + max o.m.en.length 1 ≤ 10000) (hvt : s.votes.length ≤ 900) (hcl : h.clean) (hout : s.out = ot0) (hel : 0 ≤ s.elapsed ∧ s.elapsed ≤ 4611686018427387904)
    (E : EnsAt rb h o.m o.x w) (hi : (i64ok o.a ∧ i64ok o.b ∧ i64ok o.six) ∧ i64ok o.m.ix) (hds : o.st.size ≤ 3000) (hsx : o.six ≤ M) (HMS : RdI w w.heap.size o.sp o.sn ms) (hmn : ms.length = o.sn) (hoff : 0 < o.sn → ∀ g k, o.sp = some ⟨g, k, none⟩ → ¬ Fo rb h g) (hk6 : o.kd ≠ 6) :
    Calls Tryz.prog 35 #[.pointer (some ⟨rb, 0, none⟩), .agg #[.int .i64 o.kd, .int .i64 o.a, .int .i64 o.b, .int .i64 o.m.kd, .int .i64 o.m.fr, .int .i64 o.m.tq, .int .i64 o.m.tm, .int .i64 o.m.ix, .int .i64 o.m.lt, .int .i64 o.m.cm, .int .i64 o.m.rd, .bool o.m.ok, .bool o.x.dn, .slice o.x.pe o.m.en.length o.x.ce, .slice o.x.pm o.x.nm o.x.cm, .int .i64 o.x.of, .slice o.x.pp o.x.np o.x.cp, .string o.st, .slice o.lp o.ln o.lc, .int .i64 o.six, .int .i64 o.stm, .slice o.sp o.sn o.sc]] w (Ans rb base (s.hearS o ms) h w) := by
  have hb0 : Below w.heap.size w (w.alloc (.cells #[.int .i64 o.kd, .int .i64 o.a, .int .i64 o.b, .int .i64 o.m.kd, .int .i64 o.m.fr, .int .i64 o.m.tq, .int .i64 o.m.tm, .int .i64 o.m.ix, .int .i64 o.m.lt, .int .i64 o.m.cm, .int .i64 o.m.rd, .bool o.m.ok, .bool o.x.dn, .slice o.x.pe o.m.en.length o.x.ce, .slice o.x.pm o.x.nm o.x.cm, .int .i64 o.x.of, .slice o.x.pp o.x.np o.x.cp, .string o.st, .slice o.lp o.ln o.lc, .int .i64 o.six, .int .i64 o.stm, .slice o.sp o.sn o.sc] 83)) := (Below.refl _ w).alloc (Nat.le_refl _) _
  have X0 := CBox.fresh w [.int .i64 o.kd, .int .i64 o.a, .int .i64 o.b, .int .i64 o.m.kd, .int .i64 o.m.fr, .int .i64 o.m.tq, .int .i64 o.m.tm, .int .i64 o.m.ix, .int .i64 o.m.lt, .int .i64 o.m.cm, .int .i64 o.m.rd, .bool o.m.ok, .bool o.x.dn, .slice o.x.pe o.m.en.length o.x.ce, .slice o.x.pm o.x.nm o.x.cm, .int .i64 o.x.of, .slice o.x.pp o.x.np o.x.cp, .string o.st, .slice o.lp o.ln o.lc, .int .i64 o.six, .int .i64 o.stm, .slice o.sp o.sn o.sc] 83
  have hs0 : (w.alloc (.cells #[.int .i64 o.kd, .int .i64 o.a, .int .i64 o.b, .int .i64 o.m.kd, .int .i64 o.m.fr, .int .i64 o.m.tq, .int .i64 o.m.tm, .int .i64 o.m.ix, .int .i64 o.m.lt, .int .i64 o.m.cm, .int .i64 o.m.rd, .bool o.m.ok, .bool o.x.dn, .slice o.x.pe o.m.en.length o.x.ce, .slice o.x.pm o.x.nm o.x.cm, .int .i64 o.x.of, .slice o.x.pp o.x.np o.x.cp, .string o.st, .slice o.lp o.ln o.lc, .int .i64 o.six, .int .i64 o.stm, .slice o.sp o.sn o.sc] 83)).heap.size = w.heap.size + 1 := World.size_alloc _ _
  have hb1 : Below (w.alloc (.cells #[.int .i64 o.kd, .int .i64 o.a, .int .i64 o.b, .int .i64 o.m.kd, .int .i64 o.m.fr, .int .i64 o.m.tq, .int .i64 o.m.tm, .int .i64 o.m.ix, .int .i64 o.m.lt, .int .i64 o.m.cm, .int .i64 o.m.rd, .bool o.m.ok, .bool o.x.dn, .slice o.x.pe o.m.en.length o.x.ce, .slice o.x.pm o.x.nm o.x.cm, .int .i64 o.x.of, .slice o.x.pp o.x.np o.x.cp, .string o.st, .slice o.lp o.ln o.lc, .int .i64 o.six, .int .i64 o.stm, .slice o.sp o.sn o.sc] 83)).heap.size (w.alloc (.cells #[.int .i64 o.kd, .int .i64 o.a, .int .i64 o.b, .int .i64 o.m.kd, .int .i64 o.m.fr, .int .i64 o.m.tq, .int .i64 o.m.tm, .int .i64 o.m.ix, .int .i64 o.m.lt, .int .i64 o.m.cm, .int .i64 o.m.rd, .bool o.m.ok, .bool o.x.dn, .slice o.x.pe o.m.en.length o.x.ce, .slice o.x.pm o.x.nm o.x.cm, .int .i64 o.x.of, .slice o.x.pp o.x.np o.x.cp, .string o.st, .slice o.lp o.ln o.lc, .int .i64 o.six, .int .i64 o.stm, .slice o.sp o.sn o.sc] 83)) ((w.alloc (.cells #[.int .i64 o.kd, .int .i64 o.a, .int .i64 o.b, .int .i64 o.m.kd, .int .i64 o.m.fr, .int .i64 o.m.tq, .int .i64 o.m.tm, .int .i64 o.m.ix, .int .i64 o.m.lt, .int .i64 o.m.cm, .int .i64 o.m.rd, .bool o.m.ok, .bool o.x.dn, .slice o.x.pe o.m.en.length o.x.ce, .slice o.x.pm o.x.nm o.x.cm, .int .i64 o.x.of, .slice o.x.pp o.x.np o.x.cp, .string o.st, .slice o.lp o.ln o.lc, .int .i64 o.six, .int .i64 o.stm, .slice o.sp o.sn o.sc] 83)).alloc (.cells #[.slice none 0 0, .bool false, .int .i64 0, .slice none 0 0] 37)) := (Below.refl _ _).alloc (Nat.le_refl _) _
  have X1 := CBox.fresh (w.alloc (.cells #[.int .i64 o.kd, .int .i64 o.a, .int .i64 o.b, .int .i64 o.m.kd, .int .i64 o.m.fr, .int .i64 o.m.tq, .int .i64 o.m.tm, .int .i64 o.m.ix, .int .i64 o.m.lt, .int .i64 o.m.cm, .int .i64 o.m.rd, .bool o.m.ok, .bool o.x.dn, .slice o.x.pe o.m.en.length o.x.ce, .slice o.x.pm o.x.nm o.x.cm, .int .i64 o.x.of, .slice o.x.pp o.x.np o.x.cp, .string o.st, .slice o.lp o.ln o.lc, .int .i64 o.six, .int .i64 o.stm, .slice o.sp o.sn o.sc] 83)) [.slice none 0 0, .bool false, .int .i64 0, .slice none 0 0] 37
  have hs1 : ((w.alloc (.cells #[.int .i64 o.kd, .int .i64 o.a, .int .i64 o.b, .int .i64 o.m.kd, .int .i64 o.m.fr, .int .i64 o.m.tq, .int .i64 o.m.tm, .int .i64 o.m.ix, .int .i64 o.m.lt, .int .i64 o.m.cm, .int .i64 o.m.rd, .bool o.m.ok, .bool o.x.dn, .slice o.x.pe o.m.en.length o.x.ce, .slice o.x.pm o.x.nm o.x.cm, .int .i64 o.x.of, .slice o.x.pp o.x.np o.x.cp, .string o.st, .slice o.lp o.ln o.lc, .int .i64 o.six, .int .i64 o.stm, .slice o.sp o.sn o.sc] 83)).alloc (.cells #[.slice none 0 0, .bool false, .int .i64 0, .slice none 0 0] 37)).heap.size = (w.alloc (.cells #[.int .i64 o.kd, .int .i64 o.a, .int .i64 o.b, .int .i64 o.m.kd, .int .i64 o.m.fr, .int .i64 o.m.tq, .int .i64 o.m.tm, .int .i64 o.m.ix, .int .i64 o.m.lt, .int .i64 o.m.cm, .int .i64 o.m.rd, .bool o.m.ok, .bool o.x.dn, .slice o.x.pe o.m.en.length o.x.ce, .slice o.x.pm o.x.nm o.x.cm, .int .i64 o.x.of, .slice o.x.pp o.x.np o.x.cp, .string o.st, .slice o.lp o.ln o.lc, .int .i64 o.six, .int .i64 o.stm, .slice o.sp o.sn o.sc] 83)).heap.size + 1 := World.size_alloc _ _
  have HH := Lib.hid H
  have hrl := H.rlt
  have HLT := Lib.hid (fun k (hk : Fo rb h k) => (H.lt hk).2)
  have HBB := Lib.hid B
  have HEE := Lib.hid E
  have HCL := Lib.hid hcl
  have HOU := Lib.hid hout
  have HMS1 := Lib.hid HMS
  have HOF := Lib.hid hoff
  have HI := Lib.hid hi
  have HS0 : Hid (s.hearS o ms = if o.kd = 1 then s.tick0 o.a
  else if o.kd = 3 then (if s.propE 1 o.st = 0 then s.prop0 1 o.st else s)
  else if o.kd = 5 then (if s.askE = 0 then s.ask0 else s)
  else if o.kd = 7 then (if s.restOk o.six o.stm ms then s.rest o.six o.stm ms else s)
  else if o.kd = 8 then s.appRes (sentM o.a o.b)
  else s.step o.m) := Lib.hid rfl
  clear H B hcl E hout HMS hoff hi
  go_enter Tryz.func35, Tryz.ntmps35
  go_upto_region 1 with fail
  dsimp only [List.toArray] at X0 X1
  generalize w.alloc (.cells #[.int .i64 o.kd, .int .i64 o.a, .int .i64 o.b, .int .i64 o.m.kd, .int .i64 o.m.fr, .int .i64 o.m.tq, .int .i64 o.m.tm, .int .i64 o.m.ix, .int .i64 o.m.lt, .int .i64 o.m.cm, .int .i64 o.m.rd, .bool o.m.ok, .bool o.x.dn, .slice o.x.pe o.m.en.length o.x.ce, .slice o.x.pm o.x.nm o.x.cm, .int .i64 o.x.of, .slice o.x.pp o.x.np o.x.cp, .string o.st, .slice o.lp o.ln o.lc, .int .i64 o.six, .int .i64 o.stm, .slice o.sp o.sn o.sc] 83) = Wa at *
  have X0 := X0.below hb1
  generalize Wa.alloc (.cells #[.slice none 0 0, .bool false, .int .i64 0, .slice none 0 0] 37) = W1 at *
  have HFIN : Hid (∀ (y : RS) (e : Ending) (w' W' : World), Ans rb base y h W1 e w' → Fr (fun k => k = Wa.heap.size) w' W' → Ans rb base y h w e W') := Lib.hid (fun y e w' W' hA hF => (Ans.boxed (HH.out.below hb0) hA hb1 hs1 hF).lower hb0)
  have HB1 := Lib.hid (hb0.trans (hb1.mono hb0.size))
  obtain ⟨b1, hb1e⟩ : ∃ b1, b1 = w.heap.size := ⟨_, rfl⟩
  obtain ⟨b2, hb2e⟩ : ∃ b2, b2 = Wa.heap.size := ⟨_, rfl⟩
  rw [← hb1e] at X0 hrl ⊢
  rw [← hb2e] at X1 HFIN
  have hb2' : b1 + 1 = b2 := by omega
  rw [hb2']
  have HE12 : Hid (b1 = w.heap.size ∧ b2 = w.heap.size + 1 ∧ b2 < W1.heap.size) := Lib.hid ⟨hb1e, by omega, by omega⟩
  have HNF : Hid (¬ Fo rb h b2) := Lib.hid (fun e => by have := HLT.out _ e; omega)
  have HX1 := Lib.hid X0
  have HX2 := Lib.hid X1
  have HR1 := Lib.hid (HH.out.below HB1.out)
  have HE1 := Lib.hid (HEE.out.below HB1.out)
  have HM1 := Lib.hid ((HMS1.out.below HB1.out).more HB1.out.size)
  clear X0 X1 hb0 hb1 hs0 hs1 hb1e hb2e HEE HMS1
  have a0 : W1.cell? ⟨b1, 0, none⟩ = some (.int .i64 o.kd) := HX1.out.1 0 _ rfl
  have hkk : o.kd ≠ 6 := hk6
  clear hk6
  by_cases h1 : o.kd = 1
  case pos =>
    have HST : Hid (s.hearS o ms = s.tick0 o.a) := Lib.hid (by rw [HS0.out, if_pos h1])
    rw [h1] at a0
    have a1 : W1.cell? ⟨b1, 1, none⟩ = some (.int .i64 o.a) := HX1.out.1 1 _ rfl
    have HC := Lib.hid (rf_tick o.a (bounds_i64 HI.out.1.1).1 (bounds_i64 HI.out.1.1).2 HR1.out HBB.out (by omega) (by omega) HCL.out HOU.out hel)
    clear h1 HS0 hkk
    go_wp2_with fail
    with_reducible refine (HC.out).mono ?_
    intro e w9 hA
    have HA := Lib.hid hA
    obtain ⟨p1, n1, k1, p2, n2, k2, rfl⟩ := hA.form
    have hx9 : CBox b2 [.slice none 0 0, .bool false, .int .i64 0, .slice none 0 0] w9 := by
      obtain ⟨_, _, _, _, _, hp9, _⟩ := hA
      exact HX2.out.keep hp9.1 HNF.out
    have t0 := hx9.1 0 _ rfl
    have t1 := hx9.1 1 _ rfl
    have t2 := hx9.1 2 _ rfl
    have t3 := hx9.1 3 _ rfl
    have u0 := hx9.2.1 0 (by show 0 < 4; omega)
    have u1 := hx9.2.1 1 (by show 1 < 4; omega)
    have u2 := hx9.2.1 2 (by show 2 < 4; omega)
    have u3 := hx9.2.1 3 (by show 3 < 4; omega)
    clear hA hx9 HC
    go_wp2_with fail
    all_goals (
      refine bodyPost_ret (results_cell1 rfl _ _ _ ⟨b2, 0, none⟩ (.agg #[.slice p1 n1 k1, .bool (s.tick0 o.a).out.hd, .int .i64 (s.tick0 o.a).out.fr, .slice p2 n2 k2]) rfl (by go_simp)) rfl ?_
      rw [HST.out]
      exact HFIN.out _ _ _ _ HA.out (((((Fr.refl (fun k => k = b2) w9).setCell (p := ⟨b2, 0, none⟩) (fun _ => rfl) _).setCell (p := ⟨b2, 1, none⟩) (fun _ => rfl) _).setCell (p := ⟨b2, 2, none⟩) (fun _ => rfl) _ |>.setCell (p := ⟨b2, 3, none⟩) (fun _ => rfl) _)))
  case neg =>
  have d1 : (o.kd == 1) = false := by simp [h1]
  by_cases h3 : o.kd = 3
  case pos =>
    have HST : Hid (s.hearS o ms = if s.propE 1 o.st = 0 then s.prop0 1 o.st else s) := Lib.hid (by rw [HS0.out, if_neg h1, if_pos h3])
    rw [h3] at a0
    have a17 : W1.cell? ⟨b1, 17, none⟩ = some (.string o.st) := HX1.out.1 17 _ rfl
    have HC := Lib.hid (rf_prop 1 o.st HR1.out HBB.out (by omega) (by omega) HCL.out HOU.out (by omega))
    clear h1 h3 HS0 hkk d1
    go_upto_region 5 with fail
    go_wp2_with fail
    with_reducible refine (HC.out).mono ?_
    rintro e w8 ⟨v, rfl, hA⟩
    generalize hzz : (if s.propE 1 o.st = 0 then s.prop0 1 o.st else s) = z at *
    clear hzz
    obtain ⟨p1, n1, k1, p2, n2, k2, hv⟩ := hA.form
    injection hv with hv
    subst hv
    have hx8 : CBox b2 [.slice none 0 0, .bool false, .int .i64 0, .slice none 0 0] w8 := by
      obtain ⟨_, _, _, _, _, hp9, _⟩ := hA
      exact HX2.out.keep hp9.1 HNF.out
    have hsz8 : W1.heap.size ≤ w8.heap.size := by
      obtain ⟨_, _, _, _, _, hp9, _⟩ := hA
      exact hp9.1.size
    have HX8 := Lib.hid hx8
    have HA8 := Lib.hid hA
    have HSZ8 := Lib.hid hsz8
    clear hA hx8 HC hsz8
    go_upto_region 6 with fail
    have X9 := CBox.fresh w8 [.slice p1 n1 k1, .bool z.out.hd, .int .i64 z.out.fr, .slice p2 n2 k2] 37
    have hb9 : Below w8.heap.size w8 (w8.alloc (.cells #[.slice p1 n1 k1, .bool z.out.hd, .int .i64 z.out.fr, .slice p2 n2 k2] 37)) := (Below.refl _ w8).alloc (Nat.le_refl _) _
    dsimp only [List.toArray] at X9
    generalize w8.alloc (.cells #[.slice p1 n1 k1, .bool z.out.hd, .int .i64 z.out.fr, .slice p2 n2 k2] 37) = w9 at *
    have HA := Lib.hid (HA8.out.later hb9)
    have hx9 := HX8.out.below hb9
    have hb62 : w8.heap.size ≠ b2 := by have h8 := HSZ8.out; have h9 := HE12.out.2.2; omega
    have hb26 : b2 ≠ w8.heap.size := fun e => hb62 e.symm
    generalize w8.heap.size = b6 at X9 hb62 hb26 ⊢
    have v0 := X9.1 0 _ rfl
    have v1 := X9.1 1 _ rfl
    have v2 := X9.1 2 _ rfl
    have v3 := X9.1 3 _ rfl
    have t0 := hx9.1 0 _ rfl
    have t1 := hx9.1 1 _ rfl
    have t2 := hx9.1 2 _ rfl
    have t3 := hx9.1 3 _ rfl
    have u0 := hx9.2.1 0 (by show 0 < 4; omega)
    have u1 := hx9.2.1 1 (by show 1 < 4; omega)
    have u2 := hx9.2.1 2 (by show 2 < 4; omega)
    have u3 := hx9.2.1 3 (by show 3 < 4; omega)
    clear hx9 X9 hb9 HA8 HX8 HSZ8
    go_wp2_with fail
    all_goals (
      refine bodyPost_ret (results_cell1 rfl _ _ _ ⟨b2, 0, none⟩ (.agg #[.slice p1 n1 k1, .bool z.out.hd, .int .i64 z.out.fr, .slice p2 n2 k2]) rfl (by go_simp)) rfl ?_
      rw [HST.out]
      exact HFIN.out _ _ _ _ HA.out (((((Fr.refl (fun k => k = b2) w9).setCell (p := ⟨b2, 0, none⟩) (fun _ => rfl) _).setCell (p := ⟨b2, 1, none⟩) (fun _ => rfl) _).setCell (p := ⟨b2, 2, none⟩) (fun _ => rfl) _ |>.setCell (p := ⟨b2, 3, none⟩) (fun _ => rfl) _)))
  case neg =>
  have d3 : (o.kd == 3) = false := by simp [h3]
  by_cases h5 : o.kd = 5
  case pos =>
    have HST : Hid (s.hearS o ms = if s.askE = 0 then s.ask0 else s) := Lib.hid (by rw [HS0.out, if_neg h1, if_neg h3, if_pos h5])
    rw [h5] at a0
    have HC := Lib.hid (rf_ask HR1.out HBB.out HCL.out HOU.out)
    clear h1 h3 h5 HS0 hkk d1 d3
    go_upto_region 8 with fail
    go_wp2_with fail
    with_reducible refine (HC.out).mono ?_
    rintro e w8 ⟨v, rfl, hA⟩
    generalize hzz : (if s.askE = 0 then s.ask0 else s) = z at *
    clear hzz
    obtain ⟨p1, n1, k1, p2, n2, k2, hv⟩ := hA.form
    injection hv with hv
    subst hv
    have hx8 : CBox b2 [.slice none 0 0, .bool false, .int .i64 0, .slice none 0 0] w8 := by
      obtain ⟨_, _, _, _, _, hp9, _⟩ := hA
      exact HX2.out.keep hp9.1 HNF.out
    have hsz8 : W1.heap.size ≤ w8.heap.size := by
      obtain ⟨_, _, _, _, _, hp9, _⟩ := hA
      exact hp9.1.size
    have HX8 := Lib.hid hx8
    have HA8 := Lib.hid hA
    have HSZ8 := Lib.hid hsz8
    clear hA hx8 HC hsz8
    go_upto_region 9 with fail
    have X9 := CBox.fresh w8 [.slice p1 n1 k1, .bool z.out.hd, .int .i64 z.out.fr, .slice p2 n2 k2] 37
    have hb9 : Below w8.heap.size w8 (w8.alloc (.cells #[.slice p1 n1 k1, .bool z.out.hd, .int .i64 z.out.fr, .slice p2 n2 k2] 37)) := (Below.refl _ w8).alloc (Nat.le_refl _) _
    dsimp only [List.toArray] at X9
    generalize w8.alloc (.cells #[.slice p1 n1 k1, .bool z.out.hd, .int .i64 z.out.fr, .slice p2 n2 k2] 37) = w9 at *
    have HA := Lib.hid (HA8.out.later hb9)
    have hx9 := HX8.out.below hb9
    have hb62 : w8.heap.size ≠ b2 := by have h8 := HSZ8.out; have h9 := HE12.out.2.2; omega
    have hb26 : b2 ≠ w8.heap.size := fun e => hb62 e.symm
    generalize w8.heap.size = b6 at X9 hb62 hb26 ⊢
    have v0 := X9.1 0 _ rfl
    have v1 := X9.1 1 _ rfl
    have v2 := X9.1 2 _ rfl
    have v3 := X9.1 3 _ rfl
    have t0 := hx9.1 0 _ rfl
    have t1 := hx9.1 1 _ rfl
    have t2 := hx9.1 2 _ rfl
    have t3 := hx9.1 3 _ rfl
    have u0 := hx9.2.1 0 (by show 0 < 4; omega)
    have u1 := hx9.2.1 1 (by show 1 < 4; omega)
    have u2 := hx9.2.1 2 (by show 2 < 4; omega)
    have u3 := hx9.2.1 3 (by show 3 < 4; omega)
    clear hx9 X9 hb9 HA8 HX8 HSZ8
    go_wp2_with fail
    all_goals (
      refine bodyPost_ret (results_cell1 rfl _ _ _ ⟨b2, 0, none⟩ (.agg #[.slice p1 n1 k1, .bool z.out.hd, .int .i64 z.out.fr, .slice p2 n2 k2]) rfl (by go_simp)) rfl ?_
      rw [HST.out]
      exact HFIN.out _ _ _ _ HA.out (((((Fr.refl (fun k => k = b2) w9).setCell (p := ⟨b2, 0, none⟩) (fun _ => rfl) _).setCell (p := ⟨b2, 1, none⟩) (fun _ => rfl) _).setCell (p := ⟨b2, 2, none⟩) (fun _ => rfl) _ |>.setCell (p := ⟨b2, 3, none⟩) (fun _ => rfl) _)))
  case neg =>
  have d5 : (o.kd == 5) = false := by simp [h5]
  have d6 : (o.kd == 6) = false := by simp [hkk]
  by_cases h7 : o.kd = 7
  case pos =>
    have HST : Hid (s.hearS o ms = if s.restOk o.six o.stm ms then s.rest o.six o.stm ms else s) := Lib.hid (by rw [HS0.out, if_neg h1, if_neg h3, if_neg h5, if_pos h7])
    rw [h7] at a0
    have a19 : W1.cell? ⟨b1, 19, none⟩ = some (.int .i64 o.six) := HX1.out.1 19 _ rfl
    have a20 : W1.cell? ⟨b1, 20, none⟩ = some (.int .i64 o.stm) := HX1.out.1 20 _ rfl
    have a21 : W1.cell? ⟨b1, 21, none⟩ = some (.slice o.sp o.sn o.sc) := HX1.out.1 21 _ rfl
    have HC := Lib.hid (rf_restore o.six o.stm ms o.sp o.sc HR1.out HBB.out (by omega) (bounds_i64 HI.out.1.2.2).1 HCL.out HOU.out (by rw [hmn]; exact HM1.out) (by rw [hmn]; exact HOF.out))
    rw [hmn] at HC
    clear h1 h3 h5 h7 HS0 hkk d1 d3 d5 d6
    go_upto_region 14 with fail
    go_wp2_with fail
    with_reducible refine (HC.out).mono ?_
    rintro e w8 ⟨v, rfl, hA⟩
    generalize hzz : (if s.restOk o.six o.stm ms then s.rest o.six o.stm ms else s) = z at *
    clear hzz
    obtain ⟨p1, n1, k1, p2, n2, k2, hv⟩ := hA.form
    injection hv with hv
    subst hv
    have hx8 : CBox b2 [.slice none 0 0, .bool false, .int .i64 0, .slice none 0 0] w8 := by
      obtain ⟨_, _, _, _, _, hp9, _⟩ := hA
      exact HX2.out.keep hp9.1 HNF.out
    have hsz8 : W1.heap.size ≤ w8.heap.size := by
      obtain ⟨_, _, _, _, _, hp9, _⟩ := hA
      exact hp9.1.size
    have HX8 := Lib.hid hx8
    have HA8 := Lib.hid hA
    have HSZ8 := Lib.hid hsz8
    clear hA hx8 HC hsz8
    go_upto_region 15 with fail
    have X9 := CBox.fresh w8 [.slice p1 n1 k1, .bool z.out.hd, .int .i64 z.out.fr, .slice p2 n2 k2] 37
    have hb9 : Below w8.heap.size w8 (w8.alloc (.cells #[.slice p1 n1 k1, .bool z.out.hd, .int .i64 z.out.fr, .slice p2 n2 k2] 37)) := (Below.refl _ w8).alloc (Nat.le_refl _) _
    dsimp only [List.toArray] at X9
    generalize w8.alloc (.cells #[.slice p1 n1 k1, .bool z.out.hd, .int .i64 z.out.fr, .slice p2 n2 k2] 37) = w9 at *
    have HA := Lib.hid (HA8.out.later hb9)
    have hx9 := HX8.out.below hb9
    have hb62 : w8.heap.size ≠ b2 := by have h8 := HSZ8.out; have h9 := HE12.out.2.2; omega
    have hb26 : b2 ≠ w8.heap.size := fun e => hb62 e.symm
    generalize w8.heap.size = b6 at X9 hb62 hb26 ⊢
    have v0 := X9.1 0 _ rfl
    have v1 := X9.1 1 _ rfl
    have v2 := X9.1 2 _ rfl
    have v3 := X9.1 3 _ rfl
    have t0 := hx9.1 0 _ rfl
    have t1 := hx9.1 1 _ rfl
    have t2 := hx9.1 2 _ rfl
    have t3 := hx9.1 3 _ rfl
    have u0 := hx9.2.1 0 (by show 0 < 4; omega)
    have u1 := hx9.2.1 1 (by show 1 < 4; omega)
    have u2 := hx9.2.1 2 (by show 2 < 4; omega)
    have u3 := hx9.2.1 3 (by show 3 < 4; omega)
    clear hx9 X9 hb9 HA8 HX8 HSZ8
    go_wp2_with fail
    all_goals (
      refine bodyPost_ret (results_cell1 rfl _ _ _ ⟨b2, 0, none⟩ (.agg #[.slice p1 n1 k1, .bool z.out.hd, .int .i64 z.out.fr, .slice p2 n2 k2]) rfl (by go_simp)) rfl ?_
      rw [HST.out]
      exact HFIN.out _ _ _ _ HA.out (((((Fr.refl (fun k => k = b2) w9).setCell (p := ⟨b2, 0, none⟩) (fun _ => rfl) _).setCell (p := ⟨b2, 1, none⟩) (fun _ => rfl) _).setCell (p := ⟨b2, 2, none⟩) (fun _ => rfl) _ |>.setCell (p := ⟨b2, 3, none⟩) (fun _ => rfl) _)))
  case neg =>
  have d7 : (o.kd == 7) = false := by simp [h7]
  by_cases h8 : o.kd = 8
  case pos =>
    have HST : Hid (s.hearS o ms = s.appRes (sentM o.a o.b)) := Lib.hid (by rw [HS0.out, if_neg h1, if_neg h3, if_neg h5, if_neg h7, if_pos h8])
    rw [h8] at a0
    have a1 : W1.cell? ⟨b1, 1, none⟩ = some (.int .i64 o.a) := HX1.out.1 1 _ rfl
    have a2 : W1.cell? ⟨b1, 2, none⟩ = some (.int .i64 o.b) := HX1.out.1 2 _ rfl
    have HC := Lib.hid (rf_sent o.a o.b HR1.out HBB.out (bounds_i64 HI.out.1.2.1).1 HCL.out HOU.out)
    generalize s.appRes (sentM o.a o.b) = z at *
    clear h1 h3 h5 h7 h8 HS0 hkk d1 d3 d5 d6 d7
    go_wp2_with fail
    with_reducible refine (HC.out).mono ?_
    intro e w9 hA
    have HA := Lib.hid hA
    obtain ⟨p1, n1, k1, p2, n2, k2, rfl⟩ := hA.form
    have hx9 : CBox b2 [.slice none 0 0, .bool false, .int .i64 0, .slice none 0 0] w9 := by
      obtain ⟨_, _, _, _, _, hp9, _⟩ := hA
      exact HX2.out.keep hp9.1 HNF.out
    have t0 := hx9.1 0 _ rfl
    have t1 := hx9.1 1 _ rfl
    have t2 := hx9.1 2 _ rfl
    have t3 := hx9.1 3 _ rfl
    have u0 := hx9.2.1 0 (by show 0 < 4; omega)
    have u1 := hx9.2.1 1 (by show 1 < 4; omega)
    have u2 := hx9.2.1 2 (by show 2 < 4; omega)
    have u3 := hx9.2.1 3 (by show 3 < 4; omega)
    clear hA hx9 HC
    go_wp2_with fail
    all_goals (
      refine bodyPost_ret (results_cell1 rfl _ _ _ ⟨b2, 0, none⟩ (.agg #[.slice p1 n1 k1, .bool z.out.hd, .int .i64 z.out.fr, .slice p2 n2 k2]) rfl (by go_simp)) rfl ?_
      rw [HST.out]
      exact HFIN.out _ _ _ _ HA.out (((((Fr.refl (fun k => k = b2) w9).setCell (p := ⟨b2, 0, none⟩) (fun _ => rfl) _).setCell (p := ⟨b2, 1, none⟩) (fun _ => rfl) _).setCell (p := ⟨b2, 2, none⟩) (fun _ => rfl) _ |>.setCell (p := ⟨b2, 3, none⟩) (fun _ => rfl) _)))
  case neg =>
  have d8 : (o.kd == 8) = false := by simp [h8]
  have HST : Hid (s.hearS o ms = s.step o.m) := Lib.hid (by rw [HS0.out, if_neg h1, if_neg h3, if_neg h5, if_neg h7, if_neg h8])
  have HC := Lib.hid (rf_step o.m o.x HR1.out HBB.out (by omega) hN hvt HCL.out HOU.out HE1.out (bounds_i64 HI.out.2).1 (bounds_i64 HI.out.2).2)
  unfold mxval at HC
  have a3 : W1.cell? ⟨b1, 3, none⟩ = some (.int .i64 o.m.kd) := HX1.out.1 3 _ rfl
  have a4 : W1.cell? ⟨b1, 3 + 1, none⟩ = some (.int .i64 o.m.fr) := HX1.out.1 4 _ rfl
  have a5 : W1.cell? ⟨b1, 3 + 2, none⟩ = some (.int .i64 o.m.tq) := HX1.out.1 5 _ rfl
  have a6 : W1.cell? ⟨b1, 3 + 3, none⟩ = some (.int .i64 o.m.tm) := HX1.out.1 6 _ rfl
  have a7 : W1.cell? ⟨b1, 3 + 4, none⟩ = some (.int .i64 o.m.ix) := HX1.out.1 7 _ rfl
  have a8 : W1.cell? ⟨b1, 3 + 5, none⟩ = some (.int .i64 o.m.lt) := HX1.out.1 8 _ rfl
  have a9 : W1.cell? ⟨b1, 3 + 6, none⟩ = some (.int .i64 o.m.cm) := HX1.out.1 9 _ rfl
  have a10 : W1.cell? ⟨b1, 3 + 7, none⟩ = some (.int .i64 o.m.rd) := HX1.out.1 10 _ rfl
  have a11 : W1.cell? ⟨b1, 3 + 8, none⟩ = some (.bool o.m.ok) := HX1.out.1 11 _ rfl
  have a12 : W1.cell? ⟨b1, 3 + 9, none⟩ = some (.bool o.x.dn) := HX1.out.1 12 _ rfl
  have a13 : W1.cell? ⟨b1, 3 + 10, none⟩ = some (.slice o.x.pe o.m.en.length o.x.ce) := HX1.out.1 13 _ rfl
  have a14 : W1.cell? ⟨b1, 3 + 11, none⟩ = some (.slice o.x.pm o.x.nm o.x.cm) := HX1.out.1 14 _ rfl
  have a15 : W1.cell? ⟨b1, 3 + 12, none⟩ = some (.int .i64 o.x.of) := HX1.out.1 15 _ rfl
  have a16 : W1.cell? ⟨b1, 3 + 13, none⟩ = some (.slice o.x.pp o.x.np o.x.cp) := HX1.out.1 16 _ rfl
  clear h1 h3 h5 h7 h8 HS0 hkk
  generalize s.step o.m = z at *
  go_wp2_with fail
  with_reducible refine (HC.out).mono ?_
  intro e w9 hA
  have HA := Lib.hid hA
  obtain ⟨p1, n1, k1, p2, n2, k2, rfl⟩ := hA.form
  have hx9 : CBox b2 [.slice none 0 0, .bool false, .int .i64 0, .slice none 0 0] w9 := by
    obtain ⟨_, _, _, _, _, hp9, _⟩ := hA
    exact HX2.out.keep hp9.1 HNF.out
  have t0 := hx9.1 0 _ rfl
  have t1 := hx9.1 1 _ rfl
  have t2 := hx9.1 2 _ rfl
  have t3 := hx9.1 3 _ rfl
  have u0 := hx9.2.1 0 (by show 0 < 4; omega)
  have u1 := hx9.2.1 1 (by show 1 < 4; omega)
  have u2 := hx9.2.1 2 (by show 2 < 4; omega)
  have u3 := hx9.2.1 3 (by show 3 < 4; omega)
  clear hA hx9 HC
  go_wp2_with fail
  all_goals (
    refine bodyPost_ret (results_cell1 rfl _ _ _ ⟨b2, 0, none⟩ (.agg #[.slice p1 n1 k1, .bool z.out.hd, .int .i64 z.out.fr, .slice p2 n2 k2]) rfl (by go_simp)) rfl ?_
    rw [HST.out]
    exact HFIN.out _ _ _ _ HA.out (((((Fr.refl (fun k => k = b2) w9).setCell (p := ⟨b2, 0, none⟩) (fun _ => rfl) _).setCell (p := ⟨b2, 1, none⟩) (fun _ => rfl) _).setCell (p := ⟨b2, 2, none⟩) (fun _ => rfl) _ |>.setCell (p := ⟨b2, 3, none⟩) (fun _ => rfl) _)))
end
end RF
end Go.Proofs.YtaodldagmmephaaGreat

/- arboretumlaw20.RaftTells: its state; what it may ask of each call, plain; its arguments opened. -/
namespace Go.Proofs.YtaodldagmmephaaGreat
open Go.ChangeShapes Go.WideShapes Go.ChangeAt Go.RowKit Go.Deep
namespace RF
def MB (k : Nat) : Int := ((1099511627776 + 40 * k : Nat) : Int)
def NB (k : Nat) : Nat := 40 * k + 40
/-- A core between two steps of the laws. -/
structure Th (k : Nat) (s : RS) : Prop where
  bd : RB (MB k) (NB k) s
  out : s.out = ot0
  ev : Ev (k + 1) s
  id : s.id = 1
section
variable {s : RS} {M : Int} {N k : Nat}
theorem RB.stepN (B : RB M N s) (m : Mg) (hM : M + (max m.en.length 1 : Nat) ≤ 4503599627370496) (hN : N + max m.en.length 1 ≤ 10000) (hda : ∀ e ∈ m.en, e.da.size ≤ 2000000) : RB (M + (max m.en.length 1 : Nat)) (N + max m.en.length 1) (s.step m) := by
  unfold RS.step
  split
  · rename_i hh
    exact (B.step0 m (max m.en.length 1) (by omega) (by omega) hM hN hda hh.2.2.2.2.2.2.2).1
  · exact B.mono (by omega) hM (by omega) hN
theorem hear_told (T : Th k s) (hk : k < 200) (o : OpL) (ms : List Int) (hen : o.m.en.length ≤ 40) (hda : ∀ e ∈ o.m.en, e.da.size ≤ 12000) (hst : o.st.size ≤ 3000) (hsx : o.six ≤ 1099511627776) :
    Th (k + 1) (s.hearS o ms).fin ∧ (o.kd ≠ 7 → Gh s (s.hearS o ms)) ∧ Gl s (s.hearS o ms) ∧ Say (s.hearS o ms) ∧ (s.hearS o ms).id = 1 := by
  have hM1 : MB k < 4503599627370496 := by unfold MB; omega
  have hN1 : NB k < 10000 := by unfold NB; omega
  have hMN : MB k + 40 = MB (k + 1) ∧ NB k + 40 = NB (k + 1) := ⟨by unfold MB; omega, by unfold NB; omega⟩
  have hM2 : MB (k + 1) ≤ 4503599627370496 := by unfold MB; omega
  have hN2 : NB (k + 1) ≤ 10000 := by unfold NB; omega
  have hsx2 : o.six ≤ MB k := by unfold MB; omega
  have main : ∀ z : RS, Told s z (k + 2) → RB (MB (k + 1)) (NB (k + 1)) z → Th (k + 1) z.fin ∧ (o.kd ≠ 7 → Gh s z) ∧ Gl s z ∧ Say z ∧ z.id = 1 := fun z h B =>
    ⟨⟨B.fin, rfl, h.ev, h.gh.id.trans T.id⟩, fun _ => h.gh, h.gl, h.say, h.gh.id.trans T.id⟩
  unfold RS.hearS
  split
  · exact main _ ((tick_told T.out T.bd T.ev (by omega) hM1 hN1 o.a).mono (by omega)) ((T.bd.tick0 o.a hM1 hN1).mono (by omega) hM2 (by omega) hN2)
  split
  · exact main _ ((prop_told T.out T.bd T.ev 1 (da := o.st) (by omega) hM1 hN1).mono (by omega)) ((T.bd.propS 1 (da := o.st) (by omega) hM1 hN1).mono (by omega) hM2 (by omega) hN2)
  split
  · refine main _ ((ask_told T.out T.bd T.ev).mono (by omega)) ?_
    have hb : RB (MB k) (NB k) (if s.askE = 0 then s.ask0 else s) := by
      split
      · exact T.bd.round1.sendAll
      · exact T.bd
    exact hb.mono (by omega) hM2 (by omega) hN2
  split
  · rename_i h7
    have h := rest_told T.out T.bd T.ev o.six o.stm ms
    have hb : RB (MB k) (NB k) (if s.restOk o.six o.stm ms then s.rest o.six o.stm ms else s) := by
      split
      · rename_i hok
        exact T.bd.rest hok (by omega) hsx2
      · exact T.bd
    have hid : (if s.restOk o.six o.stm ms then s.rest o.six o.stm ms else s).id = 1 := by
      split
      · have h1 : (s.rest1 o.six o.stm).id = s.id := by
          unfold RS.rest1
          split
          · split <;> rfl
          · rfl
        unfold RS.rest RS.changed
        split
        · exact h1.trans T.id
        · exact h1.trans T.id
      · exact T.id
    exact ⟨⟨(hb.mono (by omega) hM2 (by omega) hN2).fin, rfl, h.2.2.mono (by omega), hid⟩, fun h => absurd h7 h, h.1, h.2.1, hid⟩
  split
  · exact main _ ((sent_told T.out T.bd T.ev (sentM o.a o.b)).mono (by omega)) ((T.bd.appRes (sentM o.a o.b)).1.mono (by omega) hM2 (by omega) hN2)
  · exact main _ (step_told T.out T.bd T.ev o.m hM1 hN1) ((T.bd.stepN o.m (by omega) (by omega) (fun e he => by have := hda e he; omega)).mono (by omega) hM2 (by omega) hN2)
theorem th_new : newR 1 0 0 0 0 0 [1, 2, 3] [] ∧ Th 0 (new0 1 0 0 0 0 0 [1, 2, 3] []) := by
  have hv123 : CL.Valid [1, 2, 3] := (valid_iff _).1 (by decide)
  refine ⟨⟨by decide, ⟨by omega, by omega⟩, by omega, by omega, by omega, by omega, hv123, by decide⟩, ⟨?_, rfl, ⟨⟨Int.le_refl _, by show (0 : Int) ≤ _; omega⟩, Nat.zero_le _⟩, rfl⟩⟩
  exact ⟨⟨by show (1 : Int) ≤ 1; omega, by show (1 : Int) ≤ 64; omega⟩, by decide, by show (0 : Int) ≤ _; unfold MB; omega, by unfold MB; omega, Nat.zero_le _, by unfold NB; omega, (fun e he => absurd he List.not_mem_nil), hv123, (fun x hx => absurd hx List.not_mem_nil), List.nodup_nil, ⟨Int.le_refl _, by show (0 : Int) ≤ _; omega⟩, ⟨Int.le_refl _, by show (0 : Int) ≤ _; omega⟩, ⟨Int.le_refl _, by show (0 : Int) ≤ _; unfold MB; omega⟩, Int.le_refl _⟩
end
def icl1 (x : Int) : List Value := [.int .i64 x]
section
variable {H : Type} {enc : TypeId × Value → H} {w : World}
set_option maxRecDepth 100000 in
theorem elem_int1 : ∀ n cs' y, DataW.trod enc Tryz.prog w 0 (fun _ => true) true n 3 cs' = some y → ∃ x : Int, cs' = icl1 x ∧ True := by
  intro n cs' y h
  obtain ⟨x, rfl, _⟩ := DataW.trod_int Tryz.underlying3 h
  exact ⟨x, rfl, trivial⟩
theorem rdi_of_g {W : World} {B n : Nat} {p : Option Addr} {zs : List Int} (h : RdG icl1 W B p n zs) : RdI W B p n zs :=
  ⟨h.1, fun hn => by
    obtain ⟨b, o, e, hb, hc⟩ := h.2 hn
    refine ⟨b, o, e, hb, fun k hk => ?_⟩
    have h1 := rowOf_at icl1 (size := 1) (fun _ => rfl) zs k 0 (by rw [h.1]; exact hk) (by omega)
    rw [show k * 1 + 0 = k by omega] at h1
    exact hc k _ h1⟩
/-- A step of the laws, with the members of its snapshot. -/
def OpOk2 (o : OpL) (w : World) : Prop := OpOk o w ∧ ∃ ms : List Int, RdI w w.heap.size o.sp o.sn ms
set_option maxRecDepth 100000 in
theorem elem_lop2 : ∀ n cs' y, DataW.trod enc Tryz.prog w 0 (fun _ => true) true n 83 cs' = some y → ∃ o : OpL, cs' = opcells o ∧ OpOk2 o w := by
  intro n cs' y h
  obtain ⟨o, rfl, hok⟩ := elem_lop n cs' y h
  obtain ⟨hl, m, hf⟩ := struct_at Tryz.underlying83 h
  obtain ⟨z6, f6⟩ := hf 6 _ rfl
  change DataW.trod enc Tryz.prog w 0 (fun _ => true) true m 34 (List.take (Tryz.prog.cellsOf 34) [.int .i64 o.six, .int .i64 o.stm, .slice o.sp o.sn o.sc]) = some z6 at f6
  rw [size_api_Snap] at f6
  change DataW.trod enc Tryz.prog w 0 (fun _ => true) true m 34 [.int .i64 o.six, .int .i64 o.stm, .slice o.sp o.sn o.sc] = some z6 at f6
  obtain ⟨_, m2, hf2⟩ := struct_at Tryz.underlying34 f6
  obtain ⟨z2, f2⟩ := hf2 2 _ rfl
  change DataW.trod enc Tryz.prog w 0 (fun _ => true) true m2 32 (List.take (Tryz.prog.cellsOf 32) [.slice o.sp o.sn o.sc]) = some z2 at f2
  rw [size_lint] at f2
  change DataW.trod enc Tryz.prog w 0 (fun _ => true) true m2 32 [.slice o.sp o.sn o.sc] = some z2 at f2
  obtain ⟨ms, hms, _⟩ := open_rows icl1 (fun _ => rfl) (size := 1) (by omega) (fun _ => True) Tryz.underlying32 size_int elem_int1 f2
  exact ⟨o, rfl, hok, ms, rdi_of_g hms⟩
set_option maxRecDepth 100000 in
theorem open_lops2 {fuel : Nat} {p : Option Addr} {len cap : Nat} {x : DataW H × List MemPlace}
    (h : DataW.trod enc Tryz.prog w 0 (fun _ => true) true fuel 80 [.slice p len cap] = some x) : ∃ zs : List OpL, RdG opcells w w.heap.size p len zs ∧ ∀ z ∈ zs, OpOk2 z w :=
  open_rows opcells opcells_len (by omega) (fun z => OpOk2 z w) Tryz.underlying80 (by kernel_rfl) elem_lop2 h
end
end RF
end Go.Proofs.YtaodldagmmephaaGreat

/- arboretumlaw20.RaftTells: its state; its loops. -/
namespace Go.Proofs.YtaodldagmmephaaGreat
open Go.RowKit Go.Maps
namespace RF
instance : Inhabited Mg := ⟨mg0⟩
/-- A law's core as its steps go on. -/
structure Ts (w : World) (rb B0 : Nat) (s : RS) (h : Hd) (k : Nat) (W : World) : Prop where
  cl : h.clean
  rf : Rf rb B0 s h W
  th : Th k s
  lo : w.heap.size ≤ B0
  bel : Below w.heap.size w W
section
variable {w : World} {rb B0 : Nat} {s : RS} {h : Hd} {k : Nat} {W W' : World}
theorem Ts.below (T : Ts w rb B0 s h k W) (hb : Below W.heap.size W W') : Ts w rb B0 s h k W' := ⟨T.cl, T.rf.below hb, T.th, T.lo, T.bel.trans (hb.mono T.bel.size)⟩
theorem Ts.step {s' : RS} {h' : Hd} {k' : Nat} (T : Ts w rb B0 s h k W) (hc : h'.clean) (hr : Rf rb B0 s' h' W') (hp : PS rb h h' W W') (ht : Th k' s') : Ts w rb B0 s' h' k' W' :=
  ⟨hc, hr, ht, T.lo, T.bel.trans (hp.1.below T.bel.size (fun _ hi => Nat.le_trans T.lo (T.rf.lt hi).1))⟩
theorem MsgOk.ens2 {m : Mg} {x : Mx} {W : World} (hok : MsgOk m x w) (hb : Below w.heap.size w W) (hda : ∀ e ∈ m.en, e.da.size ≤ 2000000) (H : Rf rb B0 s h W) (hlo : w.heap.size ≤ B0) : EnsAt rb h m x W :=
  ⟨(hok.at'.en.below hb).more hb.size, hok.ecap.1, hda, fun h0 g o e hf => by
    obtain ⟨b, o', e', hb', _⟩ := hok.at'.en.2 h0
    rw [e] at e'
    injection e' with e'
    injection e' with e1 _ _
    have := (H.lt hf).1
    omega⟩
end
theorem row_cell2 {α : Type} [Inhabited α] {cs : α → List Value} {size : Nat} (hs : ∀ x, (cs x).length = size) {W : World} {n b o : Nat} {l : List α} (hl : l.length = n) (hc : ∀ j u, (rowOf cs l)[j]? = some u → W.cell? ⟨b, o + j, none⟩ = some u) (k c : Nat) (hk : k < n) (u : Value) (hu : (cs (HL.el l k))[c]? = some u) (hcs : c < size) : W.cell? ⟨b, o + k * size + c, none⟩ = some u := by
  rw [Nat.add_assoc]
  refine hc (k * size + c) u ?_
  rw [rowOf_at cs hs l k c (by rw [hl]; exact hk) hcs]
  exact hu
theorem load_op2 (o : OpL) (b k : Nat) (W1 : World) (h : ∀ j u, (opcells o)[j]? = some u → W1.cell? ⟨b, k + j, none⟩ = some u) : (loadVar 83 ⟨b, k, none⟩).run Tryz.prog W1 = .ok (.agg (opcells o).toArray) W1 := by
  have h1 := run_loadCells_list (P := Tryz.prog) W1 ⟨b, k, none⟩ (opcells o) (fun j v hv => by
    have e : (⟨b, k, none⟩ : Addr).add j = ⟨b, k + j, none⟩ := add_at b k j
    rw [e]
    exact h j v hv)
  rw [opcells_len] at h1
  have ha : (isAgg 83).run Tryz.prog W1 = .ok true W1 := by kernel_rfl
  have hs : (sizeOf 83).run Tryz.prog W1 = .ok 22 W1 := by kernel_rfl
  unfold loadVar
  simp only [Sem.run_bind, ha, hs, h1, Result.andThen_ok, if_true, Sem.run_pure]
def vwL (s : RS) (v : Value) : List Value := [.int .i64 s.id, .int .i64 s.role, .int .i64 s.lead, .int .i64 s.term, .int .i64 s.vote, .int .i64 s.commit, .int .i64 s.b, .int .i64 (lastS s.b s.t s.l).1, .int .i64 (lastS s.b s.t s.l).2, .int .i64 s.elapsed, .int .i64 s.timeout, .int .i64 s.round, v]
theorem _root_.Go.Proofs.YtaodldagmmephaaGreat.wpE {P : Program} {ops : Array Oper} {rest : List Oper} {a : Act} {w : World} {Q : Exit → Act → World → Prop} {o : Oper} {v : Value} (hw : Region.wanted o (yielded ops a.tmps) = true) (e3 : (execOp a.eval o).run P w = .ok (.value v) w) (h : wpList P ops Q rest (a.put o.dst v) w) : wpList P ops Q (o :: rest) a w := by
  refine wpList_step fun K hK => ?_
  rw [if_pos hw]
  unfold Oper.wp
  rw [e3]
  simp only [Oper.upon]
  exact hK _ _ h
theorem _root_.Go.Proofs.YtaodldagmmephaaGreat.wpLd {P : Program} {ops : Array Oper} {rest : List Oper} {a : Act} {w : World} {Q : Exit → Act → World → Prop} {x : Operand} {d : Option Tmp} {t ty : TypeId} {pos : String} {af : Array Edge} {g : Option (Nat × Bool)} {ad : Addr} {v : Value} (hit : a.eval x = .pointer (some ad)) (hrun : (loadVar t ad).run P w = .ok v w) (hw : Region.wanted ⟨d, .load t x, ty, pos, af, g⟩ (yielded ops a.tmps) = true) (h : wpList P ops Q rest (a.put d v) w) : wpList P ops Q (⟨d, .load t x, ty, pos, af, g⟩ :: rest) a w := by
  refine wpE hw ?_ h
  simp [execOp, hit, hrun, Instr.loadAt, Instr.sureAddr, Result.andThen]
/-- What the law asks of a call. -/
structure Asked (s z : RS) (hd0 : Bool) (fr0 : Int) (ms0 : List Mg) (nd0 : List Int) (kd : Int) : Prop where
  hd : (z.term != s.term) = true ∧ (kd ≠ 7 → hd0 = true) ∨ (z.term != s.term) = false ∧ (z.vote != s.vote) = true ∧ (kd ≠ 7 → hd0 = true) ∨ (z.term != s.term) = false ∧ (z.vote != s.vote) = false ∧ (z.commit != s.commit) = true ∧ (kd ≠ 7 → hd0 = true) ∨ (z.term != s.term) = false ∧ (z.vote != s.vote) = false ∧ (z.commit != s.commit) = false ∧ (kd ≠ 7 → hd0 = false)
  fr : fr0 = 0 → ((lastS z.b z.t z.l).1 != (lastS s.b s.t s.l).1) = false ∧ ((lastS z.b z.t z.l).2 != (lastS s.b s.t s.l).2) = false
  fr1 : 0 ≤ fr0 ∧ fr0 ≤ (lastS z.b z.t z.l).1 + 1
  ms : ∀ m ∈ ms0, MOk z m
  nd : ∀ x ∈ nd0, x ≠ 1 ∧ z.role = 2
  up : ∀ k, 0 < k → k < nd0.length → HL.el nd0 (k - 1) < HL.el nd0 k
  id : z.id = 1
theorem up_el {l : List Int} (h : CL.Up l) (k : Nat) (h0 : 0 < k) (hk : k < l.length) : HL.el l (k - 1) < HL.el l k := by
  have e : ∀ i (hi : i < l.length), HL.el l i = l[i] := fun i hi => by
    unfold HL.el
    rw [List.getD_eq_getElem?_getD, List.getElem?_eq_getElem hi]
    rfl
  rw [e (k - 1) (by omega), e k hk]
  exact List.pairwise_iff_getElem.1 h (k - 1) k (by omega) hk (by omega)
theorem asked_of {s z : RS} {kd : Int} {k : Nat} (h : Th (k + 1) z.fin ∧ (kd ≠ 7 → Gh s z) ∧ Gl s z ∧ Say z ∧ z.id = 1) : Asked s z.fin z.told.hd z.told.fr z.out.ms z.told.nd kd := by
  obtain ⟨_, hg, hl, hs, hid⟩ := h
  refine ⟨?_, fun e => ?_, ⟨hl.fr0, hl.fr⟩, fun m hm => ?_, fun x hx => ?_, fun k h0 hk => up_el (CL.nrm_up _) k h0 hk, hid⟩
  · show (z.term != s.term) = true ∧ (kd ≠ 7 → z.out.hd = true) ∨ (z.term != s.term) = false ∧ (z.vote != s.vote) = true ∧ (kd ≠ 7 → z.out.hd = true) ∨ (z.term != s.term) = false ∧ (z.vote != s.vote) = false ∧ (z.commit != s.commit) = true ∧ (kd ≠ 7 → z.out.hd = true) ∨ (z.term != s.term) = false ∧ (z.vote != s.vote) = false ∧ (z.commit != s.commit) = false ∧ (kd ≠ 7 → z.out.hd = false)
    by_cases e1 : z.term = s.term
    · have g1 : (z.term != s.term) = false := by simp [e1]
      by_cases e2 : z.vote = s.vote
      · have g2 : (z.vote != s.vote) = false := by simp [e2]
        by_cases e3 : z.commit = s.commit
        · have g3 : (z.commit != s.commit) = false := by simp [e3]
          refine .inr (.inr (.inr ⟨g1, g2, g3, fun hk => ?_⟩))
          have := (hg hk).hd
          cases hb : z.out.hd with
          | false => rfl
          | true =>
            rcases this.1 hb with a | a | a
            · exact absurd e1 a
            · exact absurd e2 a
            · exact absurd e3 a
        · exact .inr (.inr (.inl ⟨g1, g2, by simp [e3], fun hk => (hg hk).hd.2 (.inr (.inr e3))⟩))
      · exact .inr (.inl ⟨g1, by simp [e2], fun hk => (hg hk).hd.2 (.inr (.inl e2))⟩)
    · exact .inl ⟨by simp [e1], fun hk => (hg hk).hd.2 (.inl e1)⟩
  · obtain ⟨a, b, c⟩ := hl.same e
    show ((lastS z.b z.t z.l).1 != (lastS s.b s.t s.l).1) = false ∧ ((lastS z.b z.t z.l).2 != (lastS s.b s.t s.l).2) = false
    rw [a, b, c]
    simp
  · have q := hs.ms m hm
    exact ⟨q.fr, q.tq, q.tm, q.kd, q.en, q.few, q.ix, q.app, q.ask⟩
  · have hx : x ∈ CL.nrm z.out.nd := hx
    rw [CL.nrm_mem] at hx
    have := hs.nd x hx
    rw [hid] at this
    exact this
/-- What was told, and a box of what was shown ahead of it. -/
structure Said (b6 : Nat) (c6 : List Value) (b7 : Nat) (c7 : List Value) (pq pn : Option Addr) (mh : List (Mg × Value)) (nd : List Int) (W : World) : Prop where
  y : CBox b6 c6 W
  z : CBox b7 c7 W
  rw : RdG mcells W W.heap.size pq mh.length mh
  en : ∀ x ∈ mh, ∃ pe ce, x.2 = .slice pe x.1.en.length ce ∧ RdG ecells W W.heap.size pe x.1.en.length x.1.en
  nd : RdI W W.heap.size pn nd.length nd
theorem Said.below {b6 : Nat} {c6 : List Value} {b7 : Nat} {c7 : List Value} {pq pn : Option Addr} {mh : List (Mg × Value)} {nd : List Int} {W W' : World} (S : Said b6 c6 b7 c7 pq pn mh nd W) (hb : Below W.heap.size W W') : Said b6 c6 b7 c7 pq pn mh nd W' :=
  ⟨S.y.below hb, S.z.below hb, (S.rw.below hb).more hb.size, fun x hx => by
    obtain ⟨pe, ce, e, h⟩ := S.en x hx
    exact ⟨pe, ce, e, (h.below hb).more hb.size⟩, (S.nd.below hb).more hb.size⟩
theorem below_dr {b : Nat} {w w' : World} (h : Below b w w') (n : Nat) : Below b w (w'.drewN n) := ⟨h.os, h.tape, h.output, h.size, h.block⟩
theorem wrap_two (a : Int) : IntKind.i64.wrap (IntKind.i64.wrap a + 1) = IntKind.i64.wrap (a + 1) := by
  rw [IntKind.wrap_i64, IntKind.wrap_i64, IntKind.wrap_i64]
  omega
def outL (pq : Option Addr) (n cq : Nat) (hd : Bool) (fr : Int) (pn : Option Addr) (m cn : Nat) : List Value := [.slice pq n cq, .bool hd, .int .i64 fr, .slice pn m cn]
set_option maxHeartbeats 40000000 in
set_option maxRecDepth 100000 in
theorem tl6 {c : Code} (hc : (Tryz.f10).body.bind (blkOf2 6) = some c) {Q : Exit → Act → World → Prop} {W8 : World} {b6 b7 b8 cq cn : Nat} {c6 : List Value} {pq pn : Option Addr} {mh : List (Mg × Value)} {nd : List Int} {ohd : Bool} {ofr : Int} {z3 : RS} {v7 : Value} {f0 f1 f3 f4 f5 f6 f9 f10 f11 f13 f14 f15 f16 f17 f18 f19 f20 f21 f22 f23 f24 f25 f26 f27 f28 f29 f30 f31 f32 f33 f34 f35 f36 f37 f38 f39 f40 f41 f42 f43 f44 f45 f46 f47 f48 f49 f50 f51 f52 f53 f54 f55 f56 f57 f58 f59 f60 f61 f62 f63 f64 f65 f66 f67 f68 f69 f70 f71 f72 f73 f74 f75 f76 f77 f78 f79 f80 f81 f82 f83 f84 f85 f86 f87 f88 f89 f90 f91 f92 f93 f94 f95 f96 f97 f98 f99 f100 f101 f102 f103 f104 f105 f106 f107 f108 f109 f110 f111 f112 f113 f114 f115 f116 f117 f118 f119 f120 f121 f122 f123 f124 f125 f126 f127 f128 f129 f130 f131 f132 f133 f134 f135 f136 f137 f138 f139 f140 f141 f142 f143 f144 f145 f146 f147 f148 f149 f150 f151 f152 f153 f154 f155 f156 f157 f158 f159 f160 f161 f162 f163 f164 f165 f166 f167 f168 f169 f170 f171 f172 f173 f174 f175 f176 f177 f178 f179 f180 f181 f182 f183 f184 f185 f186 f187 f188 f189 f190 f191 f192 f193 f194 f195 f196 f197 f198 f199 f200 f201 f202 f203 f204 f205 f206 f207 f208 f209 f246 v2 v210 v211 v212 v213 v214 v215 v216 v217 v218 v219 v220 v221 v222 v223 v224 v225 v226 v227 v228 v229 v230 v231 v232 v233 v234 v235 v236 v237 v238 v239 v240 v241 v242 v243 v244 v245 : Value} (HSD8 : Hid (Said b6 c6 b7 (outL pq mh.length cq ohd ofr pn nd.length cn) pq pn mh nd W8)) (HY8 : Hid (CBox b8 (vwL z3 v7) W8)) (HND : Hid ((∀ x ∈ nd, x ≠ 1 ∧ z3.role = 2) ∧ ∀ k, 0 < k → k < nd.length → HL.el nd (k - 1) < HL.el nd k)) (hnl : nd.length ≤ 9223372036854775807)
    (hQ : ∀ (u2 u12 u210 u211 u212 u213 u214 u215 u216 u217 u218 u219 u220 u221 u222 u223 u224 u225 u226 u227 u228 u229 u230 u231 u232 u233 u234 u235 u236 u237 u238 u239 u240 u241 u242 u243 u244 u245 : Value)  (wx : World), Hid (Below W8.heap.size W8 wx) → Q .normal ⟨#[f0, f1, u2, f3, f4, f5, f6, .pointer (some ⟨b7, 0, none⟩), .pointer (some ⟨b8, 0, none⟩), f9, f10, f11, u12, f13, f14, f15, f16, f17, f18, f19, f20, f21, f22, f23, f24, f25, f26, f27, f28, f29, f30, f31, f32, f33, f34, f35, f36, f37, f38, f39, f40, f41, f42, f43, f44, f45, f46, f47, f48, f49, f50, f51, f52, f53, f54, f55, f56, f57, f58, f59, f60, f61, f62, f63, f64, f65, f66, f67, f68, f69, f70, f71, f72, f73, f74, f75, f76, f77, f78, f79, f80, f81, f82, f83, f84, f85, f86, f87, f88, f89, f90, f91, f92, f93, f94, f95, f96, f97, f98, f99, f100, f101, f102, f103, f104, f105, f106, f107, f108, f109, f110, f111, f112, f113, f114, f115, f116, f117, f118, f119, f120, f121, f122, f123, f124, f125, f126, f127, f128, f129, f130, f131, f132, f133, f134, f135, f136, f137, f138, f139, f140, f141, f142, f143, f144, f145, f146, f147, f148, f149, f150, f151, f152, f153, f154, f155, f156, f157, f158, f159, f160, f161, f162, f163, f164, f165, f166, f167, f168, f169, f170, f171, f172, f173, f174, f175, f176, f177, f178, f179, f180, f181, f182, f183, f184, f185, f186, f187, f188, f189, f190, f191, f192, f193, f194, f195, f196, f197, f198, f199, f200, f201, f202, f203, f204, f205, f206, f207, f208, f209, u210, u211, u212, u213, u214, u215, u216, u217, u218, u219, u220, u221, u222, u223, u224, u225, u226, u227, u228, u229, u230, u231, u232, u233, u234, u235, u236, u237, u238, u239, u240, u241, u242, u243, u244, u245, f246], []⟩ wx) : c.wp Tryz.prog Q ⟨#[f0, f1, v2, f3, f4, f5, f6, .pointer (some ⟨b7, 0, none⟩), .pointer (some ⟨b8, 0, none⟩), f9, f10, f11, .int .i64 0, f13, f14, f15, f16, f17, f18, f19, f20, f21, f22, f23, f24, f25, f26, f27, f28, f29, f30, f31, f32, f33, f34, f35, f36, f37, f38, f39, f40, f41, f42, f43, f44, f45, f46, f47, f48, f49, f50, f51, f52, f53, f54, f55, f56, f57, f58, f59, f60, f61, f62, f63, f64, f65, f66, f67, f68, f69, f70, f71, f72, f73, f74, f75, f76, f77, f78, f79, f80, f81, f82, f83, f84, f85, f86, f87, f88, f89, f90, f91, f92, f93, f94, f95, f96, f97, f98, f99, f100, f101, f102, f103, f104, f105, f106, f107, f108, f109, f110, f111, f112, f113, f114, f115, f116, f117, f118, f119, f120, f121, f122, f123, f124, f125, f126, f127, f128, f129, f130, f131, f132, f133, f134, f135, f136, f137, f138, f139, f140, f141, f142, f143, f144, f145, f146, f147, f148, f149, f150, f151, f152, f153, f154, f155, f156, f157, f158, f159, f160, f161, f162, f163, f164, f165, f166, f167, f168, f169, f170, f171, f172, f173, f174, f175, f176, f177, f178, f179, f180, f181, f182, f183, f184, f185, f186, f187, f188, f189, f190, f191, f192, f193, f194, f195, f196, f197, f198, f199, f200, f201, f202, f203, f204, f205, f206, f207, f208, f209, v210, v211, v212, v213, v214, v215, v216, v217, v218, v219, v220, v221, v222, v223, v224, v225, v226, v227, v228, v229, v230, v231, v232, v233, v234, v235, v236, v237, v238, v239, v240, v241, v242, v243, v244, v245, f246], []⟩ W8 := by
  have HQ := Lib.hid hQ
  clear hQ
  obtain ⟨d, hd, hc⟩ := blk_body2 hc
  unfold Tryz.f10 at hd
  simp only [Option.some.injEq] at hd
  subst hd
  simp [blkOf2] at hc
  subst hc
  go_wp2
  go_loopw [12] (fun kv wq2 => ∃ k2 : Nat, k2 ≤ nd.length ∧ kv = .int .i64 (k2 : Int) ∧ Hid (Below W8.heap.size W8 wq2)) (fun kv _ => nd.length - (intOf kv).toNat)
  case atStart => exact ⟨0, Nat.zero_le _, rfl, Lib.hid (Below.refl _ _)⟩
  case round =>
    obtain ⟨k2, hk2, rfl, HB2⟩ := hrel
    have t3 := ((HSD8.out.below HB2.out).z).1 3 _ rfl
    by_cases hkn : k2 < nd.length
    case neg =>
      have hnI : ¬ ((k2 : Int) < (nd.length : Int)) := by omega
      go_wp2
      exact HQ.out _ _ _ _ _ _ _ _ _ _ _ _ _ _ _ _ _ _ _ _ _ _ _ _ _ _ _ _ _ _ _ _ _ _ _ _ _ _ _ HB2
    case pos =>
    have hnI : (k2 : Int) < (nd.length : Int) := by omega
    obtain ⟨bn, on', hne, hnb, hnc⟩ := ((HSD8.out.below HB2.out).nd).2 (by omega)
    subst hne
    have hroles := HND.out.1 (HL.el nd k2) (by
      unfold HL.el
      rw [List.getD_eq_getElem?_getD, List.getElem?_eq_getElem hkn]
      exact List.getElem_mem _)
    have dro : (z3.role != 2) = false := by simp [hroles.2]
    have dx : (HL.el nd k2 == 1) = false := by simp [hroles.1]
    have q7 : wr.cell? ⟨b7, 3, none⟩ = some (.slice (some ⟨bn, on', none⟩) nd.length cn) := ((HSD8.out.below HB2.out).z).1 3 _ rfl
    have q8 : wr.cell? ⟨b8, 1, none⟩ = some (.int .i64 z3.role) := (HY8.out.below HB2.out).1 1 _ rfl
    have qn : wr.cell? ⟨bn, on' + k2, none⟩ = some (.int .i64 (HL.el nd k2)) := hnc k2 hkn
    have HHK := Lib.hid (And.intro hk2 (And.intro hkn HB2.out))
    clear hroles
    have hwk : IntKind.i64.wrap ((k2 : Int) + 1) = (k2 : Int) + 1 := IntWalk.i64_in _ (by omega)
    by_cases h0 : k2 = 0
    case pos =>
      have d0 : decide (0 < k2) = false := decide_eq_false (by omega)
      clear hnc hnb h0
      generalize HL.el nd k2 = x0 at *
      go_upto_region 34 with fail
      go_quiet (fail)
      have HB9 := Lib.hid (below_dr HHK.out.2.2 nq)
      go_wp2
      go_roundw
      case rel => exact ⟨k2 + 1, by omega, by go_num, HB9⟩
      case measure => simp [intOf]; omega
    case neg =>
      obtain ⟨k3, rfl⟩ : ∃ k3, k2 = k3 + 1 := ⟨k2 - 1, by omega⟩
      have d0 : decide ((0 : Int) < ((k3 + 1 : Nat) : Int)) = true := decide_eq_true (by omega)
      have hws : IntKind.i64.wrap (((k3 + 1 : Nat) : Int) - 1) = (k3 : Int) := by rw [show ((k3 + 1 : Nat) : Int) - 1 = (k3 : Int) by omega]; exact IntWalk.i64_in _ (by omega)
      have qm : wr.cell? ⟨bn, on' + k3, none⟩ = some (.int .i64 (HL.el nd k3)) := hnc k3 (by omega)
      have hup := HND.out.2 (k3 + 1) (by omega) hkn
      rw [show k3 + 1 - 1 = k3 by omega] at hup
      have dup : decide (HL.el nd (k3 + 1) ≤ HL.el nd k3) = false := decide_eq_false (by omega)
      have hk3 : (k3 : Int) < (nd.length : Int) := by omega
      clear hnc hnb hup
      generalize HL.el nd (k3 + 1) = x0 at *
      generalize HL.el nd k3 = x1 at *
      go_upto_region 34 with fail
      go_quiet (fail)
      have HB9 := Lib.hid (below_dr HHK.out.2.2 nq)
      go_wp2
      go_roundw
      case rel => exact ⟨k3 + 2, by omega, by go_num, HB9⟩
      case measure => simp [intOf]; omega
set_option maxHeartbeats 40000000 in
set_option maxRecDepth 100000 in
theorem tl4 {c : Code} (hc : (Tryz.f10).body.bind (blkOf2 4) = some c) {Q : Exit → Act → World → Prop} {W8 : World} {b10 ce : Nat} {pe : Option Addr} {m : Mg} {z3 : RS} {f0 f1 f3 f4 f5 f6 f7 f8 f9 f12 f13 f14 f15 f16 f17 f18 f19 f20 f21 f22 f23 f24 f25 f26 f27 f28 f29 f30 f31 f32 f33 f34 f35 f36 f37 f38 f39 f40 f41 f42 f43 f44 f45 f46 f47 f48 f49 f50 f51 f52 f53 f54 f55 f56 f57 f58 f59 f60 f61 f62 f63 f64 f65 f66 f67 f68 f69 f70 f71 f72 f73 f74 f75 f76 f77 f78 f79 f80 f81 f82 f83 f84 f85 f86 f87 f88 f89 f90 f91 f92 f93 f94 f95 f96 f97 f98 f99 f100 f101 f102 f103 f104 f105 f106 f107 f108 f109 f110 f111 f112 f113 f114 f115 f116 f117 f118 f119 f120 f121 f122 f123 f124 f125 f126 f127 f128 f129 f130 f131 f132 f133 f134 f135 f136 f137 f138 f139 f140 f141 f142 f143 f144 f145 f146 f147 f148 f149 f150 f151 f152 f153 f154 f155 f156 f157 f158 f159 f160 f161 f192 f193 f194 f195 f196 f197 f198 f199 f200 f201 f202 f203 f204 f205 f206 f207 f208 f209 f210 f211 f212 f213 f214 f215 f216 f217 f218 f219 f220 f221 f222 f223 f224 f225 f226 f227 f228 f229 f230 f231 f232 f233 f234 f235 f236 f237 f238 f239 f240 f241 f242 f243 f244 f245 f246 v2 v162 v163 v164 v165 v166 v167 v168 v169 v170 v171 v172 v173 v174 v175 v176 v177 v178 v179 v180 v181 v182 v183 v184 v185 v186 v187 v188 v189 v190 v191 : Value} (HX8 : Hid (CBox b10 (mcells (m, .slice pe m.en.length ce)) W8)) (HEN : Hid (RdG ecells W8 W8.heap.size pe m.en.length m.en)) (HM : Hid (MOk z3 m ∧ z3.last ≤ 4503599627370496))
    (hQ : ∀ (u2 u11 u162 u163 u164 u165 u166 u167 u168 u169 u170 u171 u172 u173 u174 u175 u176 u177 u178 u179 u180 u181 u182 u183 u184 u185 u186 u187 u188 u189 u190 u191 : Value)  (wx : World), Hid (Below W8.heap.size W8 wx) → Q .normal ⟨#[f0, f1, u2, f3, f4, f5, f6, f7, f8, f9, .pointer (some ⟨b10, 0, none⟩), u11, f12, f13, f14, f15, f16, f17, f18, f19, f20, f21, f22, f23, f24, f25, f26, f27, f28, f29, f30, f31, f32, f33, f34, f35, f36, f37, f38, f39, f40, f41, f42, f43, f44, f45, f46, f47, f48, f49, f50, f51, f52, f53, f54, f55, f56, f57, f58, f59, f60, f61, f62, f63, f64, f65, f66, f67, f68, f69, f70, f71, f72, f73, f74, f75, f76, f77, f78, f79, f80, f81, f82, f83, f84, f85, f86, f87, f88, f89, f90, f91, f92, f93, f94, f95, f96, f97, f98, f99, f100, f101, f102, f103, f104, f105, f106, f107, f108, f109, f110, f111, f112, f113, f114, f115, f116, f117, f118, f119, f120, f121, f122, f123, f124, f125, f126, f127, f128, f129, f130, f131, f132, f133, f134, f135, f136, f137, f138, f139, f140, f141, f142, f143, f144, f145, f146, f147, f148, f149, f150, f151, f152, f153, f154, f155, f156, f157, f158, f159, f160, f161, u162, u163, u164, u165, u166, u167, u168, u169, u170, u171, u172, u173, u174, u175, u176, u177, u178, u179, u180, u181, u182, u183, u184, u185, u186, u187, u188, u189, u190, u191, f192, f193, f194, f195, f196, f197, f198, f199, f200, f201, f202, f203, f204, f205, f206, f207, f208, f209, f210, f211, f212, f213, f214, f215, f216, f217, f218, f219, f220, f221, f222, f223, f224, f225, f226, f227, f228, f229, f230, f231, f232, f233, f234, f235, f236, f237, f238, f239, f240, f241, f242, f243, f244, f245, f246], []⟩ wx) : c.wp Tryz.prog Q ⟨#[f0, f1, v2, f3, f4, f5, f6, f7, f8, f9, .pointer (some ⟨b10, 0, none⟩), .int .i64 0, f12, f13, f14, f15, f16, f17, f18, f19, f20, f21, f22, f23, f24, f25, f26, f27, f28, f29, f30, f31, f32, f33, f34, f35, f36, f37, f38, f39, f40, f41, f42, f43, f44, f45, f46, f47, f48, f49, f50, f51, f52, f53, f54, f55, f56, f57, f58, f59, f60, f61, f62, f63, f64, f65, f66, f67, f68, f69, f70, f71, f72, f73, f74, f75, f76, f77, f78, f79, f80, f81, f82, f83, f84, f85, f86, f87, f88, f89, f90, f91, f92, f93, f94, f95, f96, f97, f98, f99, f100, f101, f102, f103, f104, f105, f106, f107, f108, f109, f110, f111, f112, f113, f114, f115, f116, f117, f118, f119, f120, f121, f122, f123, f124, f125, f126, f127, f128, f129, f130, f131, f132, f133, f134, f135, f136, f137, f138, f139, f140, f141, f142, f143, f144, f145, f146, f147, f148, f149, f150, f151, f152, f153, f154, f155, f156, f157, f158, f159, f160, f161, v162, v163, v164, v165, v166, v167, v168, v169, v170, v171, v172, v173, v174, v175, v176, v177, v178, v179, v180, v181, v182, v183, v184, v185, v186, v187, v188, v189, v190, v191, f192, f193, f194, f195, f196, f197, f198, f199, f200, f201, f202, f203, f204, f205, f206, f207, f208, f209, f210, f211, f212, f213, f214, f215, f216, f217, f218, f219, f220, f221, f222, f223, f224, f225, f226, f227, f228, f229, f230, f231, f232, f233, f234, f235, f236, f237, f238, f239, f240, f241, f242, f243, f244, f245, f246], []⟩ W8 := by
  have HQ := Lib.hid hQ
  clear hQ
  obtain ⟨d, hd, hc⟩ := blk_body2 hc
  unfold Tryz.f10 at hd
  simp only [Option.some.injEq] at hd
  subst hd
  simp [blkOf2] at hc
  subst hc
  have hfew := HM.out.1.few.1
  go_wp2
  go_loopw [11] (fun kv wq2 => ∃ k2 : Nat, k2 ≤ m.en.length ∧ kv = .int .i64 (k2 : Int) ∧ Hid (Below W8.heap.size W8 wq2)) (fun kv _ => m.en.length - (intOf kv).toNat)
  case atStart => exact ⟨0, Nat.zero_le _, rfl, Lib.hid (Below.refl _ _)⟩
  case round =>
    obtain ⟨k2, hk2, rfl, HB2⟩ := hrel
    have t3 := (HX8.out.below HB2.out).1 10 _ rfl
    by_cases hkn : k2 < m.en.length
    case neg =>
      have hnI : ¬ ((k2 : Int) < (m.en.length : Int)) := by omega
      go_wp2
      exact HQ.out _ _ _ _ _ _ _ _ _ _ _ _ _ _ _ _ _ _ _ _ _ _ _ _ _ _ _ _ _ _ _ _ _ HB2
    case pos =>
    have hnI : (k2 : Int) < (m.en.length : Int) := by omega
    obtain ⟨bn, on', hne, hnb, hnc⟩ := HEN.out.2 (by omega)
    subst hne
    have hix := HM.out.1.ix k2 hkn
    have htop := (HM.out.1.few.2 k2 hkn)
    have hlast := HM.out.2
    have hkd := HM.out.1.en (by omega)
    have q0 : wr.cell? ⟨b10, 0, none⟩ = some (.int .i64 m.kd) := (HX8.out.below HB2.out).1 0 _ rfl
    have q4 : wr.cell? ⟨b10, 4, none⟩ = some (.int .i64 m.ix) := (HX8.out.below HB2.out).1 4 _ rfl
    have qe : wr.cell? ⟨bn, on' + k2 * 4, none⟩ = some (.int .i64 (HL.el m.en k2).ix) := (HB2.out.cell (p := ⟨bn, on' + k2 * 4, none⟩) hnb).trans (row_cell2 (size := 4) ecells_length rfl hnc k2 0 hkn _ rfl (by omega))
    have hw1 : IntKind.i64.wrap (m.ix + (k2 : Int)) = m.ix + (k2 : Int) := IntWalk.i64_in _ (by omega)
    have hw2 : IntKind.i64.wrap (m.ix + (k2 : Int) + 1) = m.ix + (k2 : Int) + 1 := IntWalk.i64_in _ (by omega)
    have dix : ((HL.el m.en k2).ix != m.ix + (k2 : Int) + 1) = false := by rw [hix]; simp
    have dkd : (m.kd != 3) = false := by simp [hkd]
    have d8 : decide (8 < m.en.length) = false := decide_eq_false (by omega)
    have d8I : decide ((8 : Int) < (m.en.length : Int)) = false := decide_eq_false (by omega)
    have hwk : IntKind.i64.wrap ((k2 : Int) + 1) = (k2 : Int) + 1 := IntWalk.i64_in _ (by omega)
    have HHK := Lib.hid (And.intro hk2 (And.intro hkn HB2.out))
    clear hnc hnb hix htop hlast hkd
    generalize (HL.el m.en k2).ix = ex at *
    go_upto_region 27 with fail
    go_quiet (fail)
    have HB9 := Lib.hid (below_dr HHK.out.2.2 nq)
    go_wp2
    go_roundw
    case rel => exact ⟨k2 + 1, by omega, by go_num, HB9⟩
    case measure => simp [intOf]; omega
set_option maxHeartbeats 40000000 in
set_option maxRecDepth 100000 in
theorem tl2 {c : Code} (hc : (Tryz.f10).body.bind (blkOf2 2) = some c) {Q : Exit → Act → World → Prop} {W8 : World} {b6 b7 b8 cq cn : Nat} {c6 : List Value} {pq pn : Option Addr} {mh : List (Mg × Value)} {nd : List Int} {ohd : Bool} {ofr : Int} {z3 : RS} {v7 : Value} {msl : List Mg} {f0 f1 f3 f4 f5 f6 f12 f13 f14 f15 f16 f17 f18 f19 f20 f21 f22 f23 f24 f25 f26 f27 f28 f29 f30 f31 f32 f33 f34 f35 f36 f37 f38 f39 f40 f41 f42 f43 f44 f45 f46 f47 f48 f49 f50 f51 f52 f53 f54 f55 f56 f57 f58 f59 f60 f61 f62 f63 f64 f65 f66 f67 f68 f69 f70 f71 f72 f73 f74 f75 f76 f77 f78 f79 f80 f81 f82 f83 f84 f85 f86 f87 f88 f89 f90 f91 f92 f93 f94 f95 f96 f97 f98 f99 f100 f101 f102 f103 f104 f105 f106 f107 f108 f109 f110 f111 f112 f113 f114 f115 f116 f117 f118 f119 f120 f121 f122 f123 f124 f210 f211 f212 f213 f214 f215 f216 f217 f218 f219 f220 f221 f222 f223 f224 f225 f226 f227 f228 f229 f230 f231 f232 f233 f234 f235 f236 f237 f238 f239 f240 f241 f242 f243 f244 f245 f246 v2 v10 v11 v125 v126 v127 v128 v129 v130 v131 v132 v133 v134 v135 v136 v137 v138 v139 v140 v141 v142 v143 v144 v145 v146 v147 v148 v149 v150 v151 v152 v153 v154 v155 v156 v157 v158 v159 v160 v161 v162 v163 v164 v165 v166 v167 v168 v169 v170 v171 v172 v173 v174 v175 v176 v177 v178 v179 v180 v181 v182 v183 v184 v185 v186 v187 v188 v189 v190 v191 v192 v193 v194 v195 v196 v197 v198 v199 v200 v201 v202 v203 v204 v205 v206 v207 v208 v209 : Value} (HSD8 : Hid (Said b6 c6 b7 (outL pq mh.length cq ohd ofr pn nd.length cn) pq pn mh nd W8)) (HY8 : Hid (CBox b8 (vwL z3 v7) W8)) (HMS : Hid (mh.map (·.1) = msl)) (HMO : Hid ((∀ m ∈ msl, MOk z3 m) ∧ z3.last ≤ 4503599627370496 ∧ z3.id = 1)) (hnl : mh.length ≤ 9223372036854775807)
    (hQ : ∀ (u2 u9 u10 u11 u125 u126 u127 u128 u129 u130 u131 u132 u133 u134 u135 u136 u137 u138 u139 u140 u141 u142 u143 u144 u145 u146 u147 u148 u149 u150 u151 u152 u153 u154 u155 u156 u157 u158 u159 u160 u161 u162 u163 u164 u165 u166 u167 u168 u169 u170 u171 u172 u173 u174 u175 u176 u177 u178 u179 u180 u181 u182 u183 u184 u185 u186 u187 u188 u189 u190 u191 u192 u193 u194 u195 u196 u197 u198 u199 u200 u201 u202 u203 u204 u205 u206 u207 u208 u209 : Value)  (wx : World), Hid (Below W8.heap.size W8 wx) → Q .normal ⟨#[f0, f1, u2, f3, f4, f5, f6, .pointer (some ⟨b7, 0, none⟩), .pointer (some ⟨b8, 0, none⟩), u9, u10, u11, f12, f13, f14, f15, f16, f17, f18, f19, f20, f21, f22, f23, f24, f25, f26, f27, f28, f29, f30, f31, f32, f33, f34, f35, f36, f37, f38, f39, f40, f41, f42, f43, f44, f45, f46, f47, f48, f49, f50, f51, f52, f53, f54, f55, f56, f57, f58, f59, f60, f61, f62, f63, f64, f65, f66, f67, f68, f69, f70, f71, f72, f73, f74, f75, f76, f77, f78, f79, f80, f81, f82, f83, f84, f85, f86, f87, f88, f89, f90, f91, f92, f93, f94, f95, f96, f97, f98, f99, f100, f101, f102, f103, f104, f105, f106, f107, f108, f109, f110, f111, f112, f113, f114, f115, f116, f117, f118, f119, f120, f121, f122, f123, f124, u125, u126, u127, u128, u129, u130, u131, u132, u133, u134, u135, u136, u137, u138, u139, u140, u141, u142, u143, u144, u145, u146, u147, u148, u149, u150, u151, u152, u153, u154, u155, u156, u157, u158, u159, u160, u161, u162, u163, u164, u165, u166, u167, u168, u169, u170, u171, u172, u173, u174, u175, u176, u177, u178, u179, u180, u181, u182, u183, u184, u185, u186, u187, u188, u189, u190, u191, u192, u193, u194, u195, u196, u197, u198, u199, u200, u201, u202, u203, u204, u205, u206, u207, u208, u209, f210, f211, f212, f213, f214, f215, f216, f217, f218, f219, f220, f221, f222, f223, f224, f225, f226, f227, f228, f229, f230, f231, f232, f233, f234, f235, f236, f237, f238, f239, f240, f241, f242, f243, f244, f245, f246], []⟩ wx) : c.wp Tryz.prog Q ⟨#[f0, f1, v2, f3, f4, f5, f6, .pointer (some ⟨b7, 0, none⟩), .pointer (some ⟨b8, 0, none⟩), .int .i64 0, v10, v11, f12, f13, f14, f15, f16, f17, f18, f19, f20, f21, f22, f23, f24, f25, f26, f27, f28, f29, f30, f31, f32, f33, f34, f35, f36, f37, f38, f39, f40, f41, f42, f43, f44, f45, f46, f47, f48, f49, f50, f51, f52, f53, f54, f55, f56, f57, f58, f59, f60, f61, f62, f63, f64, f65, f66, f67, f68, f69, f70, f71, f72, f73, f74, f75, f76, f77, f78, f79, f80, f81, f82, f83, f84, f85, f86, f87, f88, f89, f90, f91, f92, f93, f94, f95, f96, f97, f98, f99, f100, f101, f102, f103, f104, f105, f106, f107, f108, f109, f110, f111, f112, f113, f114, f115, f116, f117, f118, f119, f120, f121, f122, f123, f124, v125, v126, v127, v128, v129, v130, v131, v132, v133, v134, v135, v136, v137, v138, v139, v140, v141, v142, v143, v144, v145, v146, v147, v148, v149, v150, v151, v152, v153, v154, v155, v156, v157, v158, v159, v160, v161, v162, v163, v164, v165, v166, v167, v168, v169, v170, v171, v172, v173, v174, v175, v176, v177, v178, v179, v180, v181, v182, v183, v184, v185, v186, v187, v188, v189, v190, v191, v192, v193, v194, v195, v196, v197, v198, v199, v200, v201, v202, v203, v204, v205, v206, v207, v208, v209, f210, f211, f212, f213, f214, f215, f216, f217, f218, f219, f220, f221, f222, f223, f224, f225, f226, f227, f228, f229, f230, f231, f232, f233, f234, f235, f236, f237, f238, f239, f240, f241, f242, f243, f244, f245, f246], []⟩ W8 := by
  have HQ := Lib.hid hQ
  clear hQ
  obtain ⟨d, hd, hc⟩ := blk_body2 hc
  unfold Tryz.f10 at hd
  simp only [Option.some.injEq] at hd
  subst hd
  simp [blkOf2] at hc
  subst hc
  go_wp2
  go_loopw [9] (fun kv wq => ∃ k : Nat, k ≤ mh.length ∧ kv = .int .i64 (k : Int) ∧ Hid (Below W8.heap.size W8 wq)) (fun kv _ => mh.length - (intOf kv).toNat)
  case atStart => exact ⟨0, Nat.zero_le _, rfl, Lib.hid (Below.refl _ _)⟩
  case round =>
    obtain ⟨k, hk, rfl, HBK⟩ := hrel
    have t0 := ((HSD8.out.below HBK.out).z).1 0 _ rfl
    by_cases hkl : k < mh.length
    case neg =>
      have hkJ : ¬ ((k : Int) < (mh.length : Int)) := by omega
      go_wp2
      exact HQ.out _ _ _ _ _ _ _ _ _ _ _ _ _ _ _ _ _ _ _ _ _ _ _ _ _ _ _ _ _ _ _ _ _ _ _ _ _ _ _ _ _ _ _ _ _ _ _ _ _ _ _ _ _ _ _ _ _ _ _ _ _ _ _ _ _ _ _ _ _ _ _ _ _ _ _ _ _ _ _ _ _ _ _ _ _ _ _ _ _ _ HBK
    case pos =>
    have hkJ : (k : Int) < (mh.length : Int) := by omega
    have hwk : IntKind.i64.wrap ((k : Int) + 1) = (k : Int) + 1 := IntWalk.i64_in _ (by omega)
    have HSK := Lib.hid (HSD8.out.below HBK.out)
    have HYK := Lib.hid (HY8.out.below HBK.out)
    obtain ⟨bq, oq, hqe, hqb, hqc⟩ := HSK.out.rw.2 (by omega)
    subst hqe
    obtain ⟨pe, ce, hpe, hen⟩ := HSK.out.en (HL.el mh k) (el_in hkl)
    have hmok : MOk z3 (HL.el mh k).1 := HMO.out.1 _ (by
      rw [← HMS.out]
      exact List.mem_map.2 ⟨_, el_in hkl, rfl⟩)
    have hcy : ∀ j u, j < 14 → (mcells (HL.el mh k))[j]? = some u → wr.cell? ⟨bq, oq + k * 14 + j, none⟩ = some u := fun j u hj hu => row_cell2 (size := 14) mcells_length rfl hqc k j hkl u hu hj
    have hcy' : ∀ j u, j < 14 → (mcells ((HL.el mh k).1, .slice pe (HL.el mh k).1.en.length ce))[j]? = some u → wr.cell? ⟨bq, oq + k * 14 + j, none⟩ = some u := fun j u hj hu => hcy j u hj (by rw [← hpe] at hu; exact hu)
    clear hcy hpe hqc
    generalize (HL.el mh k).1 = m at *
    have HMK := Lib.hid (And.intro hmok HMO.out.2)
    have HEN := Lib.hid hen
    have HHK := Lib.hid (And.intro hk hkl)
    clear hmok hen
    have y0 : wr.cell? ⟨bq, oq + k * 14, none⟩ = some (.int .i64 m.kd) := hcy' 0 _ (by omega) rfl
    have y1 : wr.cell? ⟨bq, oq + k * 14 + 1, none⟩ = some (.int .i64 m.fr) := hcy' 1 _ (by omega) rfl
    have y2 : wr.cell? ⟨bq, oq + k * 14 + 2, none⟩ = some (.int .i64 m.tq) := hcy' 2 _ (by omega) rfl
    have y3 : wr.cell? ⟨bq, oq + k * 14 + 3, none⟩ = some (.int .i64 m.tm) := hcy' 3 _ (by omega) rfl
    have y4 : wr.cell? ⟨bq, oq + k * 14 + 4, none⟩ = some (.int .i64 m.ix) := hcy' 4 _ (by omega) rfl
    have y5 : wr.cell? ⟨bq, oq + k * 14 + 5, none⟩ = some (.int .i64 m.lt) := hcy' 5 _ (by omega) rfl
    have y6 : wr.cell? ⟨bq, oq + k * 14 + 6, none⟩ = some (.int .i64 m.cm) := hcy' 6 _ (by omega) rfl
    have y7 : wr.cell? ⟨bq, oq + k * 14 + 7, none⟩ = some (.int .i64 m.rd) := hcy' 7 _ (by omega) rfl
    have y8 : wr.cell? ⟨bq, oq + k * 14 + 8, none⟩ = some (.bool m.ok) := hcy' 8 _ (by omega) rfl
    have y9 : wr.cell? ⟨bq, oq + k * 14 + 9, none⟩ = some (.bool false) := hcy' 9 _ (by omega) rfl
    have y10 : wr.cell? ⟨bq, oq + k * 14 + 10, none⟩ = some (.slice pe m.en.length ce) := hcy' 10 _ (by omega) rfl
    have y11 : wr.cell? ⟨bq, oq + k * 14 + 11, none⟩ = some (.slice none 0 0) := hcy' 11 _ (by omega) rfl
    have y12 : wr.cell? ⟨bq, oq + k * 14 + 12, none⟩ = some (.int .i64 0) := hcy' 12 _ (by omega) rfl
    have y13 : wr.cell? ⟨bq, oq + k * 14 + 13, none⟩ = some (.slice none 0 0) := hcy' 13 _ (by omega) rfl
    clear hcy' hqb
    have X0 := CBox.fresh wr (mcells (m, .slice pe m.en.length ce)) 48
    have hb1 : Below wr.heap.size wr (wr.alloc (.cells (mcells (m, .slice pe m.en.length ce)).toArray 48)) := (Below.refl _ wr).alloc (Nat.le_refl _) _
    have HSA := Lib.hid (HSK.out.below hb1)
    have HYA := Lib.hid (HYK.out.below hb1)
    have HBA := Lib.hid (HBK.out.trans (hb1.mono HBK.out.size))
    have HEA := Lib.hid ((HEN.out.below hb1).more hb1.size)
    unfold mcells at X0 hb1 HSA HYA HBA HEA
    dsimp only [List.toArray] at X0 hb1 HSA HYA HBA HEA
    go_upto_region 22 with fail
    clear y0 y1 y2 y3 y4 y5 y6 y7 y8 y9 y10 y11 y12 y13 t0
    generalize wr.alloc (.cells #[.int .i64 m.kd, .int .i64 m.fr, .int .i64 m.tq, .int .i64 m.tm, .int .i64 m.ix, .int .i64 m.lt, .int .i64 m.cm, .int .i64 m.rd, .bool m.ok, .bool false, .slice pe m.en.length ce, .slice none 0 0, .int .i64 0, .slice none 0 0] 48) = WA at *
    generalize wr.heap.size = b10 at *
    have HX8 : Hid (CBox b10 (mcells (m, .slice pe m.en.length ce)) WA) := Lib.hid X0
    clear X0 hb1 HSK HYK HBK HEN
    (try clear wr)
    have x0 := HX8.out.1 0 _ rfl
    have x1 := HX8.out.1 1 _ rfl
    have x2 := HX8.out.1 2 _ rfl
    have x3 := HX8.out.1 3 _ rfl
    have w3 := HYA.out.1 3 _ rfl
    dsimp only at x0 x1 x2 x3
    have d1 : (m.fr != 1) = false := by rw [HMK.out.1.fr, HMK.out.2.2]; rfl
    have d2 : (m.tq == 1) = false := by have h := HMK.out.1.tq; rw [HMK.out.2.2] at h; simp [h]
    have d3 : (m.tm != z3.term) = false := by rw [HMK.out.1.tm]; simp
    have d4 : decide (m.kd < 1) = false := decide_eq_false (by have := HMK.out.1.kd; omega)
    have d5 : decide (6 < m.kd) = false := decide_eq_false (by have := HMK.out.1.kd; omega)
    go_cut [161] from 137 to 161 (fun s161 wx => s161 = .bool false ∧ wx = WA)
    case first =>
      go_wp2
      go_meet
      case rel => exact ⟨rfl, rfl⟩
    case rest =>
    obtain ⟨rfl, hwx⟩ := hcut
    have hwx := hwx.symm
    subst hwx
    clear x0 x1 x2 x3 w3 d1 d2 d3 d4 d5
    go_upto_block 4 with fail
    refine tl4 (c := _) (by kernel_rfl) HX8 HEA (Lib.hid ⟨HMK.out.1, HMK.out.2.1⟩) ?_
    intro _ _ _ _ _ _ _ _ _ _ _ _ _ _ _ _ _ _ _ _ _ _ _ _ _ _ _ _ _ _ _ _ wx HBX
    have HBF := Lib.hid (HBA.out.trans (HBX.out.mono HBA.out.size))
    have x0 : wx.cell? ⟨b10, 0, none⟩ = some (.int .i64 m.kd) := (HX8.out.below HBX.out).1 0 _ rfl
    have w1 : wx.cell? ⟨b8, 1, none⟩ = some (.int .i64 z3.role) := (HYA.out.below HBX.out).1 1 _ rfl
    have hap := HMK.out.1.app
    have has' := HMK.out.1.ask
    by_cases h3 : m.kd = 3
    · have e3 : (m.kd == 3) = true := by simp [h3]
      have e1 : (m.kd == 1) = false := by simp [h3]
      have er : (z3.role != 2) = false := by simp [hap h3]
      clear hap has' h3
      go_wp2
      go_roundw
      case rel => exact ⟨k + 1, by have := HHK.out.2; omega, by go_num, HBF⟩
      case measure => simp [intOf]; have := HHK.out.2; omega
    · have e3 : (m.kd == 3) = false := by simp [h3]
      by_cases h1 : m.kd = 1
      · have e1 : (m.kd == 1) = true := by simp [h1]
        have er : (z3.role != 1) = false := by simp [has' h1]
        clear hap has' h3 h1
        go_wp2
        go_roundw
        case rel => exact ⟨k + 1, by have := HHK.out.2; omega, by go_num, HBF⟩
        case measure => simp [intOf]; have := HHK.out.2; omega
      · have e1 : (m.kd == 1) = false := by simp [h1]
        clear hap has' h3 h1
        go_wp2
        go_roundw
        case rel => exact ⟨k + 1, by have := HHK.out.2; omega, by go_num, HBF⟩
        case measure => simp [intOf]; have := HHK.out.2; omega
end RF
end Go.Proofs.YtaodldagmmephaaGreat

