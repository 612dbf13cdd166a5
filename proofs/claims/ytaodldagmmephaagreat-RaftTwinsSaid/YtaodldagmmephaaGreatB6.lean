/- Merged texts: Rc1 Rg5 Rg6 Rd1. -/
import Derived.Test.YtaodldagmmephaaGreatB5
import Derived.Test.YtaodldagmmephaaGreatB1
import Derived.Test.YtaodldagmmephaaGreatB4
/- raft, plain: the same machine, in a form that can be reckoned out (sorting by insertion). -/
namespace Go.Proofs.YtaodldagmmephaaGreat
open Go.RowKit Go.Maps
namespace RF
def ins (x : Int) : List Int → List Int
  | [] => [x]
  | y :: l => if x ≤ y then x :: y :: l else y :: ins x l
def isrt : List Int → List Int
  | [] => []
  | x :: l => ins x (isrt l)
theorem ins_perm (x : Int) : ∀ l, (ins x l).Perm (x :: l)
  | [] => List.Perm.refl _
  | y :: l => by
    unfold ins
    split
    · exact List.Perm.refl _
    · exact ((ins_perm x l).cons y).trans (List.Perm.swap x y l)
theorem isrt_perm : ∀ l, (isrt l).Perm l
  | [] => List.Perm.refl _
  | x :: l => (ins_perm x (isrt l)).trans ((isrt_perm l).cons x)
theorem ins_sorted (x : Int) : ∀ l : List Int, l.Pairwise (· ≤ ·) → (ins x l).Pairwise (· ≤ ·)
  | [], _ => List.pairwise_singleton _ _
  | y :: l, h => by
    have h1 := List.pairwise_cons.1 h
    unfold ins
    split
    · rename_i hxy
      refine List.pairwise_cons.2 ⟨fun z hz => ?_, h⟩
      rcases List.mem_cons.1 hz with rfl | hz
      · exact hxy
      · exact Int.le_trans hxy (h1.1 z hz)
    · rename_i hxy
      refine List.pairwise_cons.2 ⟨fun z hz => ?_, ins_sorted x l h1.2⟩
      rcases List.mem_cons.1 ((ins_perm x l).mem_iff.1 hz) with rfl | hz
      · omega
      · exact h1.1 z hz
theorem isrt_sorted : ∀ l : List Int, (isrt l).Pairwise (· ≤ ·)
  | [] => List.Pairwise.nil
  | x :: l => ins_sorted x _ (isrt_sorted l)
theorem srt_C : CL.srt = isrt := by
  funext zs
  exact List.Perm.eq_of_pairwise (le := fun a b => a ≤ b) (fun a b _ _ h1 h2 => Int.le_antisymm h1 h2) (CL.srt_sorted zs) (isrt_sorted zs) ((CL.srt_perm zs).trans (isrt_perm zs).symm)
def nrmC (zs : List Int) : List Int := Lib.compact (isrt zs)
theorem nrm_C : CL.nrm = nrmC := by funext zs; unfold CL.nrm nrmC; rw [srt_C]
def wonC (m v : List Int) : Bool := decide (0 < CL.cnt (nrmC m) v) && decide (CL.quo (nrmC m).length ≤ CL.cnt (nrmC m) v)
theorem won_C : CL.won = wonC := by funext m v; unfold CL.won wonC; rw [nrm_C]
def reachedC (zs ids ats : List Int) : Int :=
  if (nrmC zs).length = 0 then 0 else HL.el (isrt ((nrmC zs).map (CL.val ids ats))) ((nrmC zs).length - CL.quo (nrmC zs).length)
theorem reached_C : CL.reached = reachedC := by funext a b c; unfold CL.reached reachedC; rw [nrm_C, srt_C]
def RS.farC (s : RS) (own : Int) (of : Pr → Int) : Int :=
  reachedC s.all (s.id :: s.others) (own :: s.others.map fun i => of ((s.knowAll s.others).pr i))
theorem far_C : RS.far = RS.farC := by funext s own of; unfold RS.far RS.farC; rw [reached_C]
def RS.countC (s : RS) : RS := ((s.knowAll s.others).count1 (s.farC s.last Pr.mt)).count2
theorem count_C : RS.count = RS.countC := by funext s; unfold RS.count RS.countC; rw [far_C]
def RS.winC (s : RS) : RS :=
  let a := (((s.win1).knowAll (s.win1).others).add 0 ⟨#[]⟩).countC
  if a.role = 2 then a.sendAll else a
theorem win_C : RS.win = RS.winC := by funext s; unfold RS.win RS.winC; rw [count_C]
def RS.standC (s : RS) (d : Int) : RS :=
  if wonC (s.stand1 d).all (s.stand1 d).votes = true then (s.stand1 d).winC else (s.stand1 d).askAll
theorem stand_C : RS.stand = RS.standC := by funext s d; unfold RS.stand RS.standC; rw [win_C, won_C]
def RS.tick0C (s : RS) (d : Int) : RS :=
  if s.tick1.role = 2 then (if s.tick1.elapsed = 3 then ({ s.tick1 with elapsed := 0 } : RS).sendAll else s.tick1)
  else if s.tick1.id ∈ s.tick1.all ∧ s.tick1.timeout ≤ s.tick1.elapsed ∧ s.tick1.term < 1152921504606846976 then s.tick1.standC d else s.tick1
theorem tick0_C : RS.tick0 = RS.tick0C := by funext s d; unfold RS.tick0 RS.tick0C; rw [stand_C]
def RS.voteResC (s : RS) (m : Mg) : RS :=
  if s.role ≠ 1 ∨ m.ok = false then s
  else if wonC (s.voteRes1 m).all (s.voteRes1 m).votes = true then (s.voteRes1 m).winC else s.voteRes1 m
theorem voteRes_C : RS.voteRes = RS.voteResC := by funext s m; unfold RS.voteRes RS.voteResC; rw [win_C, won_C]
def RS.prop0C (s : RS) (kd : Int) (da : ByteArray) : RS :=
  let a := ((s.add kd da).regard (s.last + 1)).countC
  if a.role = 2 then a.sendAll else a
theorem prop0_C : RS.prop0 = RS.prop0C := by funext s kd da; unfold RS.prop0 RS.prop0C; rw [count_C]
def RS.appYesC (s : RS) (m : Mg) : RS :=
  let a := (s.setPr m.fr { s.heard m with mt := max (s.heard m).mt m.ix, nx := max (s.heard m).nx (max (s.heard m).mt m.ix + 1) }).countC
  if a.role = 2 ∧ (a.pr m.fr).nx ≤ a.last then a.send m.fr else a
theorem appYes_C : RS.appYes = RS.appYesC := by funext s m; unfold RS.appYes RS.appYesC; rw [count_C]
def RS.appResC (s : RS) (m : Mg) : RS :=
  if s.role ≠ 2 ∨ ¬ m.fr ∈ s.others then s
  else
    let k := s.know m.fr
    if m.ok = true ∧ (m.ix < 0 ∨ s.last < m.ix) then k
    else if m.ok = false then k.appNo m else k.appYesC m
theorem appRes_C : RS.appRes = RS.appResC := by funext s m; unfold RS.appRes RS.appResC; rw [appYes_C]
def RS.step1C (s : RS) (m : Mg) : RS :=
  if m.kd = 1 then s.voteReq m
  else if m.kd = 2 then s.voteResC m
  else if m.kd = 3 then (if s.role = 2 then s else (s.follow m).appReq m)
  else if m.kd = 4 then s.appResC m
  else if m.kd = 5 then s.follow m
  else s
theorem step1_C : RS.step1 = RS.step1C := by funext s m; unfold RS.step1 RS.step1C; rw [voteRes_C, appRes_C]
def RS.step0C (s : RS) (m : Mg) : RS := if m.tm < s.term then s.late m else (s.turn m).step1C m
theorem step0_C : RS.step0 = RS.step0C := by funext s m; unfold RS.step0 RS.step0C; rw [step1_C]
def RS.stepC (s : RS) (m : Mg) : RS := if s.heeds m then s.step0C m else s
theorem step_C : RS.step = RS.stepC := by funext s m; unfold RS.step RS.stepC; rw [step0_C]
end RF
end Go.Proofs.YtaodldagmmephaaGreat

/- raft: the cores that the laws grow, plain. -/
namespace Go.Proofs.YtaodldagmmephaaGreat
open Go.RowKit Go.Maps
namespace RF
def mx0 : Mx := ⟨none, 0, false, none, 0, 0, 0, none, 0, 0⟩
/-- A message without entries. -/
def smg (kd fr tm ix rd : Int) (ok : Bool) : Mg := ⟨kd, fr, 1, tm, ix, 0, 0, rd, ok, []⟩
def RS.tickF (s : RS) (d : Int) : RS := (s.tick0 d).fin
def RS.stepF (s : RS) (m : Mg) : RS := (s.step m).fin
def RS.propS (s : RS) (kd : Int) (da : ByteArray) : RS := if s.propE kd da = 0 then s.prop0 kd da else s
def RS.propF (s : RS) (kd : Int) (da : ByteArray) : RS := (s.propS kd da).fin
def idsN (n : Nat) : List Int := (List.range n).map fun (k : Nat) => (k : Int) + 1
def gT (n : Nat) : Nat → RS
  | 0 => new0 1 0 0 0 0 0 (idsN n) []
  | k + 1 => (gT n k).tickF 0
def gV (n : Nat) : Nat → RS
  | 0 => gT n 11
  | k + 1 => (gV n k).stepF (smg 2 ((k : Int) + 2) 1 0 0 true)
def gP (n : Nat) : Nat → RS
  | 0 => gV n (n - 1)
  | k + 1 => (gP n k).propF 1 ⟨#[120]⟩
section
variable {rb base : Nat} {s : RS} {h : Hd} {w : World} {M : Int} {N : Nat}
theorem RB.fin (B : RB M N s) : RB M N s.fin := B.of rfl rfl rfl rfl rfl rfl rfl rfl rfl
theorem RB.sayAll (f : Int → Mg) : ∀ (L : List Int) (s : RS), RB M N s → RB M N (L.foldl (fun r i => r.say (f i)) s)
  | [], _, B => B
  | y :: L, s, B => RB.sayAll f L (s.say (f y)) B.say
theorem RB.tick0 (B : RB M N s) (d : Int) (hM : M < 4503599627370496) (hN : N < 10000) : RB (M + 1) (N + 1) (s.tick0 d) := by
  have hm : ∀ {z : RS}, RB M N z → RB (M + 1) (N + 1) z := fun h => h.mono (by omega) (by omega) (by omega) (by omega)
  unfold RS.tick0
  split
  · split
    · exact hm (RB.sendAll (s := { s.tick1 with elapsed := 0 }) (B.of rfl rfl rfl rfl rfl rfl rfl rfl rfl))
    · exact hm B.tick1
  · split
    · rename_i h1
      have h2 := B.tick1.stand1 (d := d) h1.2.2
      unfold RS.stand
      split
      · exact win_rb h2 hM hN
      · unfold RS.askAll
        exact hm (RB.sayAll _ _ _ h2)
    · exact hm B.tick1
theorem RB.stepS (B : RB M N s) (kd fr tm ix rd : Int) (ok : Bool) (hM : M < 4503599627370496) (hN : N < 10000) : RB (M + 1) (N + 1) (s.step (smg kd fr tm ix rd ok)) := by
  unfold RS.step
  split
  · rename_i h1
    exact (B.step0 (smg kd fr tm ix rd ok) 1 (Nat.le_refl _) (Nat.zero_le _) (by omega) (by omega) (fun e he => absurd he List.not_mem_nil) h1.2.2.2.2.2.2.2).1
  · exact B.mono (by omega) (by omega) (by omega) (by omega)
theorem RB.propS (B : RB M N s) (kd : Int) {da : ByteArray} (hda : da.size ≤ 2000000) (hM : M < 4503599627370496) (hN : N < 10000) : RB (M + 1) (N + 1) (s.propS kd da) := by
  unfold RS.propS
  split
  · exact B.prop0 kd hda hM hN
  · exact B.mono (by omega) (by omega) (by omega) (by omega)
theorem ids_valid (n : Nat) (h1 : 1 ≤ n) (h5 : n ≤ 9) : CL.Valid (idsN n) := (valid_iff _).1 (by
  have h9 : n = 1 ∨ n = 2 ∨ n = 3 ∨ n = 4 ∨ n = 5 ∨ n = 6 ∨ n = 7 ∨ n = 8 ∨ n = 9 := by omega
  rcases h9 with rfl | rfl | rfl | rfl | rfl | rfl | rfl | rfl | rfl <;> decide)
theorem ids_len (n : Nat) : (idsN n).length = n := by simp [idsN]
theorem ids_succ (n : Nat) : idsN (n + 1) = idsN n ++ [(n : Int) + 1] := by simp [idsN, List.range_succ]
theorem grown_new (n : Nat) (h1 : 1 ≤ n) (h5 : n ≤ 9) : newR 1 0 0 0 0 0 (idsN n) [] := ⟨rfl, ⟨by omega, by omega⟩, by omega, by omega, by omega, by omega, ids_valid n h1 h5, by decide⟩
theorem gT_rb (n : Nat) (h1 : 1 ≤ n) (h5 : n ≤ 9) : ∀ k : Nat, k ≤ 20 → RB (k : Int) k (gT n k)
  | 0, _ => ⟨⟨by show (1 : Int) ≤ 1; omega, by show (1 : Int) ≤ 64; omega⟩, rfl, by show (0 : Int) ≤ _; omega, by omega, Nat.le_refl _, by omega, (fun e he => absurd he List.not_mem_nil), ids_valid n h1 h5, (fun x hx => absurd hx List.not_mem_nil), List.nodup_nil, ⟨Int.le_refl _, by show (0 : Int) ≤ _; omega⟩, ⟨Int.le_refl _, by show (0 : Int) ≤ _; omega⟩, ⟨Int.le_refl _, Int.le_refl _⟩, Int.le_refl _⟩
  | k + 1, hk => ((gT_rb n h1 h5 k (by omega)).tick0 0 (by omega) (by omega)).fin
theorem gV_rb (n : Nat) (h1 : 1 ≤ n) (h5 : n ≤ 9) : ∀ k : Nat, k ≤ 20 → RB ((11 + k : Nat) : Int) (11 + k) (gV n k)
  | 0, _ => gT_rb n h1 h5 11 (by omega)
  | k + 1, hk => ((gV_rb n h1 h5 k (by omega)).stepS 2 ((k : Int) + 2) 1 0 0 true (by omega) (by omega)).fin
theorem gP_rb (n : Nat) (h1 : 1 ≤ n) (h5 : n ≤ 9) : ∀ k : Nat, k ≤ 40 → RB ((30 + k : Nat) : Int) (30 + k) (gP n k)
  | 0, _ => (gV_rb n h1 h5 (n - 1) (by omega)).mono (by omega) (by omega) (by omega) (by omega)
  | k + 1, hk => ((gP_rb n h1 h5 k (by omega)).propS 1 (da := ⟨#[120]⟩) (by decide) (by omega) (by omega)).fin
theorem gT_out (n : Nat) : ∀ k, (gT n k).out = ot0
  | 0 => rfl
  | _ + 1 => rfl
theorem gV_out (n : Nat) : ∀ k, (gV n k).out = ot0
  | 0 => rfl
  | _ + 1 => rfl
theorem gP_out (n : Nat) : ∀ k, (gP n k).out = ot0
  | 0 => gV_out n _
  | _ + 1 => rfl
theorem all_of {P : Nat → Nat → Bool} {a b : Nat} (h : ((List.range a).all fun i => (List.range b).all fun j => P i j) = true) {i j : Nat} (hi : i < a) (hj : j < b) : P i j = true := by
  rw [List.all_eq_true] at h
  have h1 := h i (List.mem_range.2 hi)
  rw [List.all_eq_true] at h1
  exact h1 j (List.mem_range.2 hj)
/-- The same, in the form that can be reckoned out. -/
def gTC (n : Nat) : Nat → RS
  | 0 => new0 1 0 0 0 0 0 (idsN n) []
  | k + 1 => ((gTC n k).tick0C 0).fin
theorem gT_C (n : Nat) : ∀ k, gT n k = gTC n k
  | 0 => rfl
  | k + 1 => by
    show ((gT n k).tick0 0).fin = ((gTC n k).tick0C 0).fin
    rw [gT_C n k, tick0_C]
def gVC (n : Nat) : Nat → RS
  | 0 => gTC n 11
  | k + 1 => ((gVC n k).stepC (smg 2 ((k : Int) + 2) 1 0 0 true)).fin
theorem gV_C (n : Nat) : ∀ k, gV n k = gVC n k
  | 0 => gT_C n 11
  | k + 1 => by
    show ((gV n k).step _).fin = ((gVC n k).stepC _).fin
    rw [gV_C n k, step_C]
def RS.propSC (s : RS) (kd : Int) (da : ByteArray) : RS := if s.propE kd da = 0 then s.prop0C kd da else s
theorem propS_C : RS.propS = RS.propSC := by funext s kd da; unfold RS.propS RS.propSC; rw [prop0_C]
def gPC (n : Nat) : Nat → RS
  | 0 => gVC n (n - 1)
  | k + 1 => ((gPC n k).propSC 1 ⟨#[120]⟩).fin
theorem gP_C (n : Nat) : ∀ k, gP n k = gPC n k
  | 0 => gV_C n _
  | k + 1 => by
    show ((gP n k).propS 1 _).fin = ((gPC n k).propSC 1 _).fin
    rw [gP_C n k, propS_C]
theorem gT_elb : ((List.range 5).all fun i => (List.range 12).all fun j => decide (0 ≤ (gTC (i + 1) j).elapsed ∧ (gTC (i + 1) j).elapsed ≤ 4611686018427387904)) = true := by decide +kernel
theorem gT_el (n : Nat) (h1 : 1 ≤ n) (h5 : n ≤ 5) (k : Nat) (hk : k ≤ 11) : 0 ≤ (gT n k).elapsed ∧ (gT n k).elapsed ≤ 4611686018427387904 := by
  have h := all_of (P := fun i j => decide (0 ≤ (gTC (i + 1) j).elapsed ∧ (gTC (i + 1) j).elapsed ≤ 4611686018427387904)) gT_elb (i := n - 1) (j := k) (by omega) (by omega)
  rw [show n - 1 + 1 = n by omega] at h
  rw [gT_C]
  exact of_decide_eq_true h
theorem gV_vtb : ((List.range 5).all fun i => (List.range 5).all fun j => decide ((gVC (i + 1) j).votes.length ≤ 900)) = true := by decide +kernel
theorem gV_vt (n : Nat) (h1 : 1 ≤ n) (h5 : n ≤ 5) (k : Nat) (hk : k ≤ 4) : (gV n k).votes.length ≤ 900 := by
  have h := all_of (P := fun i j => decide ((gVC (i + 1) j).votes.length ≤ 900)) gV_vtb (i := n - 1) (j := k) (by omega) (by omega)
  rw [show n - 1 + 1 = n by omega] at h
  rw [gV_C]
  exact of_decide_eq_true h
/-- What a grown core is. -/
def okG (n c : Nat) (s : RS) : Bool :=
  decide (s.role = 2) && (decide (s.term = 1) && (decide (s.id = 1) && (decide (s.b = 0) && (decide (s.t = 0) && (decide (s.l.length = c + 1) && ((s.l.all fun e => decide (e.tm = 1) && decide (e.kd ≠ 2)) && (decide (s.snap = idsN n) && (decide (s.ps.length = n - 1) && ((s.ps.all fun x => decide (x.2.mt = 0) && (decide (x.2.rd = 0) && (decide (2 ≤ x.1) && decide (x.1 ≤ (n : Int))))) && (decide (s.commit = if n = 1 then (c : Int) + 1 else 0) && (decide (s.vote = 1) && (decide (s.round = 0) && decide (s.votes.length ≤ 900)))))))))))))
/-- Are a core and the next ones, as more is proposed, grown well? -/
def okC (n : Nat) : Nat → Nat → RS → Bool
  | 0, c, s => okG n c s
  | f + 1, c, s => okG n c s && okC n f (c + 1) ((s.propSC 1 ⟨#[120]⟩).fin)
theorem okC_all : ((List.range 5).all fun i => okC (i + 1) 20 0 (gPC (i + 1) 0)) = true := by decide +kernel
theorem okC_step (n : Nat) : ∀ (f c k : Nat), okC n f c (gPC n c) = true → k ≤ f → okG n (c + k) (gPC n (c + k)) = true
  | f, c, 0, h, _ => by
    cases f with
    | zero => exact h
    | succ f =>
      unfold okC at h
      rw [Bool.and_eq_true] at h
      exact h.1
  | 0, c, k + 1, h, hk => by omega
  | f + 1, c, k + 1, h, hk => by
    unfold okC at h
    rw [Bool.and_eq_true] at h
    have h2 := okC_step n f (c + 1) k h.2 (by omega)
    rw [show c + (k + 1) = c + 1 + k by omega]
    exact h2
theorem gP_ok (n c : Nat) (h1 : 1 ≤ n) (h5 : n ≤ 5) (hc : c ≤ 20) : okG n c (gP n c) = true := by
  have h := okC_all
  rw [List.all_eq_true] at h
  have h2 := h (n - 1) (List.mem_range.2 (by omega))
  rw [show n - 1 + 1 = n by omega] at h2
  have h3 := okC_step n 20 0 c h2 hc
  rw [gP_C]
  rwa [Nat.zero_add] at h3
theorem rf_stepS (kd fr tm ix rd : Int) (ok : Bool) (H : Rf rb base s h w) (B : RB M N s) (hM : M < 4503599627370496) (hN : N < 10000) (hvt : s.votes.length ≤ 900) (hcl : h.clean) (hout : s.out = ot0) (hxl : -9223372036854775808 ≤ ix) (hxu : ix ≤ 9223372036854775807) :
    Calls Tryz.prog 18 #[.pointer (some ⟨rb, 0, none⟩), .agg #[.int .i64 kd, .int .i64 fr, .int .i64 1, .int .i64 tm, .int .i64 ix, .int .i64 0, .int .i64 0, .int .i64 rd, .bool ok, .bool false, .slice none 0 0, .slice none 0 0, .int .i64 0, .slice none 0 0]] w (Ans rb base (s.step (smg kd fr tm ix rd ok)) h w) :=
  rf_step (smg kd fr tm ix rd ok) mx0 H B (by show M + (1 : Nat) ≤ _; omega) (by show N + 1 ≤ _; omega) hvt hcl hout ⟨⟨rfl, fun h => absurd h (by show ¬ 0 < 0; omega)⟩, Nat.le_refl _, (fun e he => absurd he List.not_mem_nil), (fun h0 => absurd h0 (by show ¬ 0 < 0; omega))⟩ hxl hxu
end
end RF
end Go.Proofs.YtaodldagmmephaaGreat

/- arboretumlaw20.grown: a core that leads. -/
namespace Go.Proofs.YtaodldagmmephaaGreat
open Go.RowKit Go.Maps
namespace RF
section
variable {rb base : Nat} {s : RS} {h : Hd} {w : World} {M : Int} {N : Nat}
theorem g_nil {W : World} {b : Nat} {e : TypeId} {sz n : Nat} {p : Option Addr} {m c : Nat} {xs : List Value} (h : W.ownsRow b e sz (.slice p m c) n xs) : (∃ b o, p = some ⟨b, o, none⟩) ∨ p = none ∧ c = 0 := by
  rcases h.2 with ⟨e, _⟩ | ⟨g, cap, cur, e, _⟩
  · injection e with e1 _ e3
    exact .inr ⟨e1, e3⟩
  · injection e with e1 _ _
    exact .inl ⟨_, _, e1⟩
end
set_option maxHeartbeats 2000000 in
set_option maxRecDepth 100000 in
theorem grown_walk (n c : Nat) (h1 : 1 ≤ n) (h5 : n ≤ 5) (hc : c ≤ 20) (w : World) :
    Calls Tryz.prog 19 #[.int .i64 n, .int .i64 c] w fun e w' => ∃ rb h B0, e = .returned (.tuple #[.pointer (some ⟨rb, 0, none⟩), .bool true]) ∧ h.clean ∧ w.heap.size ≤ B0 ∧ Rf rb B0 (gP n c) h w' ∧ Below w.heap.size w w' := by
  go_enter Tryz.func19, Tryz.ntmps19
  go_wp2
  go_loopw [6, 7] (fun lv iv wr => ∃ k : Nat, k ≤ n ∧ iv = .int .i64 ((k : Int) + 1) ∧ Hid (wr.ownsRow w.heap.size 3 1 lv k (rowOf ncells (idsN k)) ∧ Below w.heap.size w wr)) (fun _ iv _ => n + 1 - (intOf iv).toNat)
  case atStart => exact ⟨0, Nat.zero_le _, rfl, Lib.hid ⟨World.ownsRow_nil _ _ _ _, Below.refl _ _⟩⟩
  case round =>
    obtain ⟨k, hk, rfl, HR⟩ := hrel
    obtain ⟨p, cp, hv⟩ := owns_slice HR.out.1
    subst hv
    by_cases hlt : k < n
    · have hltI : (k : Int) + 1 ≤ (n : Int) := by omega
      have hw2 : IntKind.i64.wrap ((k : Int) + 1 + 1) = (k : Int) + 1 + 1 := IntWalk.i64_in _ (by omega)
      have HRD := Lib.hid (one_cells wr [.int .i64 ((k : Int) + 1)] 3 ncells ((k : Int) + 1) rfl)
      have HSZ := Lib.hid HR.out.2.size
      go_wp2_with (at_builtin; refine RowT.app int_T rfl _ _ rfl w.heap.size (.slice p k cp) k (rowOf ncells (idsN k)) rfl (HR.out.1.alloc _) rfl HRD.out (fun h => by cases h) (by omega) (by have := HSZ.out; simp; omega) ?_; intro v4 w4 hown4 hgr4 hat4)
      have HF : Hid (w4.ownsRow w.heap.size 3 1 v4 (k + 1) (rowOf ncells (idsN (k + 1))) ∧ Below w.heap.size w w4) := Lib.hid ⟨by rw [ids_succ, rowOf_append]; exact hown4, HR.out.2.trans ((Fr.of_grown hgr4 (S := fun g => (Value.slice p k cp).ownBlock = some g) (fun _ _ h => h)).below (by have := HSZ.out; simp; omega) (fun g hg => (HR.out.1.lt g hg).1) |> fun hb => ((Below.refl w.heap.size wr).alloc HSZ.out _).trans hb)⟩
      clear hown4 hgr4 hat4 HR
      go_wp2
      go_roundw
      case rel => exact ⟨k + 1, by omega, by go_num, HF⟩
      case measure => simp [intOf]; omega
    · obtain rfl : k = n := by omega
      have hltI : ¬ ((k : Int) + 1 ≤ (k : Int)) := by omega
      have HRI := Lib.hid (RdI.of_own HR.out.1 (ids_len k))
      have HBW := Lib.hid HR.out.2
      have HNEW := Lib.hid (rf_new 1 0 0 0 0 0 (idsN k) p cp [] none 0 0 (by omega) (by omega) (by rw [ids_len]; exact HRI.out) ⟨rfl, fun h => absurd h (by omega)⟩ (.inr ⟨rfl, rfl⟩) (by omega) (fun i hi => absurd hi (by omega)) (grown_new k h1 (by omega)))
      rw [ids_len] at HNEW
      clear HR
      go_wp2_with fail
      with_reducible refine (HNEW.out).mono ?_
      rintro e w2 ⟨rb, h, B0, rfl, hcl, hB0, hr, hb2⟩
      have HS : Hid (w.heap.size ≤ B0) := Lib.hid (Nat.le_trans HBW.out.size hB0)
      have HR2 : Hid (h.clean ∧ Rf rb B0 (gT k 0) h w2 ∧ Below w.heap.size w w2) := Lib.hid ⟨hcl, hr, HBW.out.trans (hb2.mono HBW.out.size)⟩
      clear hcl hB0 hr hb2 HNEW HBW HRI
      go_wp2
      go_loopw [10] (fun iv wr => ∃ (i : Nat) (h : Hd), i ≤ 11 ∧ iv = .int .i64 i ∧ Hid (h.clean ∧ Rf rb B0 (gT k i) h wr ∧ Below w.heap.size w wr)) (fun iv _ => 11 - (intOf iv).toNat)
      case atStart => exact ⟨0, h, by omega, rfl, HR2⟩
      case round =>
        obtain ⟨i, h', hi, rfl, HR⟩ := hrel
        by_cases hlt : i < 11
        · have hltI : (i : Int) < 11 := by omega
          have HTK := Lib.hid (rf_tick 0 (by omega) (by omega) HR.out.2.1 (gT_rb k h1 (by omega) i (by omega)) (by omega) (by omega) HR.out.1 (gT_out k i) (gT_el k h1 h5 i (by omega)))
          go_wp2_with fail
          with_reducible refine (HTK.out).mono ?_
          rintro e w3 ⟨v, h3, rfl, hc3, hr3, hp3, _⟩
          have HR3 : Hid (h3.clean ∧ Rf rb B0 (gT k (i + 1)) h3 w3 ∧ Below w.heap.size w w3) := Lib.hid ⟨hc3, hr3, HR.out.2.2.trans (hp3.1.below (HR.out.2.2.size) (fun k hk => Nat.le_trans HS.out (HR.out.2.1.lt hk).1))⟩
          clear hc3 hr3 hp3 HTK HR
          go_wp2
          go_roundw
          case rel => exact ⟨i + 1, h3, by omega, by go_num, HR3⟩
          case measure => simp [intOf]; omega
        · have h11 : i = 11 := by omega
          have hltI : ¬ ((i : Int) < 11) := by omega
          have HR4 : Hid (h'.clean ∧ Rf rb B0 (gV k 0) h' wr ∧ Below w.heap.size w wr) := Lib.hid (by have h := HR.out; rw [h11] at h; exact h)
          clear HR HR2 h11
          go_wp2
          go_loopw [11] (fun iv wr => ∃ (i : Nat) (h : Hd), i + 1 ≤ k ∧ iv = .int .i64 ((i : Int) + 2) ∧ Hid (h.clean ∧ Rf rb B0 (gV k i) h wr ∧ Below w.heap.size w wr)) (fun iv _ => k + 2 - (intOf iv).toNat)
          case atStart => exact ⟨0, h', by omega, rfl, HR4⟩
          case round =>
            clear HR4
            obtain ⟨i, h', hi, rfl, HR⟩ := hrel
            by_cases hlt : i + 1 < k
            · have hltI : (i : Int) + 2 ≤ (k : Int) := by omega
              have hw2 : IntKind.i64.wrap ((i : Int) + 2 + 1) = (i : Int) + 2 + 1 := IntWalk.i64_in _ (by omega)
              have HST := Lib.hid (rf_stepS 2 ((i : Int) + 2) 1 0 0 true HR.out.2.1 (gV_rb k h1 (by omega) i (by omega)) (by omega) (by omega) (gV_vt k h1 h5 i (by omega)) HR.out.1 (gV_out k i) (by omega) (by omega))
              go_wp2_with fail
              with_reducible refine (HST.out).mono ?_
              rintro e w3 ⟨v, h3, rfl, hc3, hr3, hp3, _⟩
              have HR3 : Hid (h3.clean ∧ Rf rb B0 (gV k (i + 1)) h3 w3 ∧ Below w.heap.size w w3) := Lib.hid ⟨hc3, hr3, HR.out.2.2.trans (hp3.1.below (HR.out.2.2.size) (fun k hk => Nat.le_trans HS.out (HR.out.2.1.lt hk).1))⟩
              clear hc3 hr3 hp3 HST HR
              go_wp2
              go_roundw
              case rel => exact ⟨i + 1, h3, by omega, by go_num, HR3⟩
              case measure => simp [intOf]; omega
            · have hltI : ¬ ((i : Int) + 2 ≤ (k : Int)) := by omega
              have HR4 : Hid (h'.clean ∧ Rf rb B0 (gP k 0) h' wr ∧ Below w.heap.size w wr) := Lib.hid (by
                obtain rfl : i = k - 1 := by omega
                exact HR.out)
              clear HR hi hlt
              go_wp2
              go_loopw [12] (fun iv wr => ∃ (i : Nat) (h : Hd), i ≤ c ∧ iv = .int .i64 i ∧ Hid (h.clean ∧ Rf rb B0 (gP k i) h wr ∧ Below w.heap.size w wr)) (fun iv _ => c - (intOf iv).toNat)
              case atStart => exact ⟨0, h', by omega, rfl, HR4⟩
              case round =>
                clear HR4
                obtain ⟨i, h', hi, rfl, HR⟩ := hrel
                by_cases hlt : i < c
                · have hltI : (i : Int) < (c : Int) := by omega
                  have HST := Lib.hid (rf_prop 1 ⟨#[120]⟩ HR.out.2.1 (gP_rb k h1 (by omega) i (by omega)) (by omega) (by omega) HR.out.1 (gP_out k i) (by decide))
                  go_wp2_with fail
                  with_reducible refine (HST.out).mono ?_
                  rintro e w3 ⟨v, rfl, v3, h3, _, hc3, hr3, hp3, _⟩
                  have HR3 : Hid (h3.clean ∧ Rf rb B0 (gP k (i + 1)) h3 w3 ∧ Below w.heap.size w w3) := Lib.hid ⟨hc3, hr3, HR.out.2.2.trans (hp3.1.below (HR.out.2.2.size) (fun k hk => Nat.le_trans HS.out (HR.out.2.1.lt hk).1))⟩
                  clear hc3 hr3 hp3 HST HR
                  go_wp2
                  go_roundw
                  case rel => exact ⟨i + 1, h3, by omega, by go_num, HR3⟩
                  case measure => simp [intOf]; omega
                · obtain rfl : i = c := by omega
                  have HST := Lib.hid (rf_state HR.out.2.1 (gP_rb k h1 (by omega) i (by omega)))
                  have hrole : (gP k i).role = 2 := by
                    have h := gP_ok k i h1 h5 hc
                    unfold okG at h
                    rw [Bool.and_eq_true] at h
                    exact of_decide_eq_true h.1
                  generalize hz : gP k i = z at *
                  have HZ := Lib.hid hz
                  clear hz
                  go_wp2_with fail
                  with_reducible refine (HST.out).mono ?_
                  rintro e w3 ⟨v, rfl, ho3, hb3⟩
                  obtain ⟨p3, c3, hv3⟩ := owns_slice ho3
                  subst hv3
                  have HB3 := Lib.hid (And.intro (HR.out.2.1.below hb3) (HR.out.2.2.trans (hb3.mono HR.out.2.2.size)))
                  have HCL := Lib.hid HR.out.1
                  unfold stateV
                  rw [hrole]
                  clear ho3 hb3 HST HR hrole
                  have hfd : (Instr.field 41 (.agg #[.int .i64 z.id, .int .i64 2, .int .i64 z.lead, .int .i64 z.term, .int .i64 z.vote, .int .i64 z.commit, .int .i64 z.b, .int .i64 (lastS z.b z.t z.l).1, .int .i64 (lastS z.b z.t z.l).2, .int .i64 z.elapsed, .int .i64 z.timeout, .int .i64 z.round, .slice p3 z.all.length c3]) 1).run Tryz.prog w3 = .ok (.int .i64 2) w3 := by kernel_rfl
                  go_wp2_with fail
                  go_ret2
                  exact ⟨rb, h', B0, rfl, HCL.out, HS.out, by rw [HZ.out]; exact HB3.out.1, HB3.out.2⟩
end RF
end Go.Proofs.YtaodldagmmephaaGreat

/- raft, plain: what stays as messages come; what a message of a later term makes. -/
namespace Go.Proofs.YtaodldagmmephaaGreat
open Go.RowKit Go.Maps
namespace RF
/-- What most calls leave. -/
structure Core where
  id : Int
  role : Int
  term : Int
  vote : Int
  snap : List Int
  b : Int
  t : Int
  l : List En
  round : Int
  votes : List Int
def RS.core (s : RS) : Core := ⟨s.id, s.role, s.term, s.vote, s.snap, s.b, s.t, s.l, s.round, s.votes⟩
section
variable {s z : RS} {m : Mg}
theorem Core.all {s z : RS} (h : s.core = z.core) : s.all = z.all ∧ s.others = z.others ∧ s.last = z.last ∧ s.mem = z.mem := by
  obtain ⟨a1, a2, a3, a4, a5, a6, a7, a8, a9, a10, a11, a12, a13, a14, a15, a16⟩ := s
  obtain ⟨b1, b2, b3, b4, b5, b6, b7, b8, b9, b10, b11, b12, b13, b14, b15, b16⟩ := z
  unfold RS.core at h
  injection h
  dsimp only at *
  subst_vars
  exact ⟨rfl, rfl, rfl, rfl⟩
theorem Core.parts {s z : RS} (h : s.core = z.core) : s.role = z.role ∧ s.term = z.term ∧ s.vote = z.vote ∧ s.id = z.id ∧ s.round = z.round ∧ s.l = z.l ∧ s.b = z.b ∧ s.t = z.t ∧ s.snap = z.snap ∧ s.votes = z.votes := by
  unfold RS.core at h
  injection h
  exact ⟨‹_›, ‹_›, ‹_›, ‹_›, ‹_›, ‹_›, ‹_›, ‹_›, ‹_›, ‹_›⟩
theorem core_know (s : RS) (i : Int) : (s.know i).core = s.core := by unfold RS.know; split <;> rfl
theorem core_knowAll : ∀ (L : List Int) (s : RS), (s.knowAll L).core = s.core
  | [], _ => rfl
  | y :: L, s => (core_knowAll L (s.know y)).trans (core_know s y)
theorem core_say (s : RS) (m : Mg) : (s.say m).core = s.core := rfl
theorem core_send (s : RS) (i : Int) : (s.send i).core = s.core := by
  unfold RS.send RS.send1
  split
  · exact core_know s i
  · exact core_know s i
theorem core_setPr (s : RS) (i : Int) (p : Pr) : (s.setPr i p).core = s.core := rfl
theorem core_sendAll (s : RS) : s.sendAll.core = s.core := by
  have h : ∀ (L : List Int) (z : RS), (L.foldl RS.send z).core = z.core := by
    intro L
    induction L with
    | nil => exact fun _ => rfl
    | cons y L ih => exact fun z => (ih (z.send y)).trans (core_send z y)
  exact h _ _
theorem core_count1 (s : RS) (x : Int) : (s.count1 x).core = s.core := by unfold RS.count1; split <;> rfl
theorem core_count2 (h : s.id ∈ s.all) : s.count2 = s := by
  unfold RS.count2
  rw [if_neg (fun e => e.2.2 h)]
theorem count_in (h : s.id ∈ s.all) : s.count = (s.knowAll s.others).count1 (s.far s.last Pr.mt) := by
  have hc := (core_count1 (s.knowAll s.others) (s.far s.last Pr.mt)).trans (core_knowAll s.others s)
  unfold RS.count
  refine core_count2 ?_
  rw [(Core.all hc).1, (Core.parts hc).2.2.2.1]
  exact h
theorem core_count (h : s.id ∈ s.all) : s.count.core = s.core := by
  rw [count_in h]
  exact (core_count1 _ _).trans (core_knowAll _ _)
theorem core_appNo (s : RS) (m : Mg) : (s.appNo m).core = s.core := by
  unfold RS.appNo
  exact (core_send _ _).trans (core_setPr _ _ _)
theorem core_appYes (h : s.id ∈ s.all) : (s.appYes m).core = s.core := by
  unfold RS.appYes
  dsimp only
  have hc : ∀ p, (s.setPr m.fr p).count.core = s.core := fun p => (core_count (s := s.setPr m.fr p) h).trans (core_setPr s m.fr p)
  split
  · exact (core_send _ _).trans (hc _)
  · exact hc _
theorem core_appRes (h : s.id ∈ s.all) : (s.appRes m).core = s.core := by
  unfold RS.appRes
  dsimp only
  split
  · rfl
  · have hk := core_know s m.fr
    have h2 : (s.know m.fr).id ∈ (s.know m.fr).all := by rw [(Core.all hk).1, (Core.parts hk).2.2.2.1]; exact h
    split
    · exact hk
    · split
      · exact (core_appNo _ _).trans hk
      · exact (core_appYes h2).trans hk
/-- A leader that is told something of its own term leads on. -/
theorem lead_stays (h : s.id ∈ s.all) (hr : s.role = 2) : (s.step1 m).core = s.core := by
  unfold RS.step1
  split
  · unfold RS.voteReq
    have : s.voteOk m = false := by
      unfold RS.voteOk
      rw [decide_eq_false (show ¬ s.role = 0 by omega)]
      simp
    rw [this]
    exact core_say _ _
  · split
    · unfold RS.voteRes
      rw [if_pos (.inl (by omega))]
    · split
      · first | rfl | rw [if_pos hr]
      · split
        · exact core_appRes h
        · split
          · unfold RS.follow
            first | rfl | rw [if_pos hr]
          · rfl
theorem appReq_keep (s : RS) (m : Mg) : (s.appReq m).term = s.term ∧ (s.appReq m).role = s.role ∧ (s.appReq m).vote = s.vote ∧ (s.out.hd = true → (s.appReq m).out.hd = true) := by
  unfold RS.appReq
  dsimp only
  split
  · exact ⟨rfl, rfl, rfl, fun h => h⟩
  · split
    · exact ⟨rfl, rfl, rfl, fun h => h⟩
    · split
      · exact ⟨rfl, rfl, rfl, fun h => h⟩
      · split
        · exact ⟨rfl, rfl, rfl, fun h => h⟩
        · have hto : ∀ (z : RS) (x : Int), (z.appTo m x).term = z.term ∧ (z.appTo m x).role = z.role ∧ (z.appTo m x).vote = z.vote ∧ (z.out.hd = true → (z.appTo m x).out.hd = true) := fun z x => by
            unfold RS.appTo
            split
            · exact ⟨rfl, rfl, rfl, fun _ => rfl⟩
            · exact ⟨rfl, rfl, rfl, fun h => h⟩
          have hch : ∀ (z : RS) (x : Int), (z.changed x).term = z.term ∧ (z.changed x).role = z.role ∧ (z.changed x).vote = z.vote ∧ (z.out.hd = true → (z.changed x).out.hd = true) := fun z x => by
            unfold RS.changed
            split
            · exact ⟨rfl, rfl, rfl, fun h => h⟩
            · exact ⟨rfl, rfl, rfl, fun h => h⟩
          split
          · obtain ⟨a1, a2, a3, a4⟩ := hto (RS.changed { s with l := (mergeS s.b s.t s.l m.ix m.lt s.commit m.en).2 } (mergeS s.b s.t s.l m.ix m.lt s.commit m.en).1.1) (m.ix + (m.en.length : Int))
            obtain ⟨b1, b2, b3, b4⟩ := hch { s with l := (mergeS s.b s.t s.l m.ix m.lt s.commit m.en).2 } (mergeS s.b s.t s.l m.ix m.lt s.commit m.en).1.1
            exact ⟨a1.trans b1, a2.trans b2, a3.trans b3, fun h => a4 (b4 h)⟩
          · obtain ⟨a1, a2, a3, a4⟩ := hto { s with l := (mergeS s.b s.t s.l m.ix m.lt s.commit m.en).2 } (m.ix + (m.en.length : Int))
            exact ⟨a1, a2, a3, a4⟩
/-- A message of a later term. -/
theorem step_later (hh : s.heeds m) (ht : s.term < m.tm) : (s.step m).term = m.tm ∧ (s.step m).role = 0 ∧ (s.step m).out.hd = true ∧ ((s.step m).vote = 0 ∨ (s.step m).vote = m.fr ∧ m.kd = 1) := by
  have hd : s.down m.tm = { s with role := 0, lead := 0, term := m.tm, vote := 0, out := { s.out with hd := true } } := by unfold RS.down; rw [if_pos ht]
  unfold RS.step RS.step0 RS.turn
  rw [if_pos hh, if_neg (by omega), if_pos ht, hd]
  generalize hz : ({ s with role := 0, lead := 0, term := m.tm, vote := 0, out := { s.out with hd := true } } : RS) = z
  have z1 : z.term = m.tm := by rw [← hz]
  have z2 : z.role = 0 := by rw [← hz]
  have z3 : z.out.hd = true := by rw [← hz]
  have z4 : z.vote = 0 := by rw [← hz]
  clear hz hd
  unfold RS.step1
  split
  · rename_i hk
    unfold RS.voteReq
    split
    · refine ⟨z1, z2, ?_, .inr ⟨rfl, hk⟩⟩
      show (z.out.hd || _) = true
      rw [z3]
      rfl
    · exact ⟨z1, z2, z3, .inl z4⟩
  · split
    · unfold RS.voteRes
      rw [if_pos (.inl (by omega))]
      exact ⟨z1, z2, z3, .inl z4⟩
    · split
      · rw [if_neg (by omega)]
        obtain ⟨a1, a2, a3, a4⟩ := appReq_keep (z.follow m) m
        have hf : z.follow m = { z with role := 0, lead := m.fr, elapsed := 0 } := by unfold RS.follow; rw [if_neg (by omega)]
        rw [hf] at a1 a2 a3 a4 ⊢
        exact ⟨a1.trans z1, a2, a4 z3, .inl (a3.trans z4)⟩
      · split
        · unfold RS.appRes
          rw [if_pos (.inl (by omega))]
          exact ⟨z1, z2, z3, .inl z4⟩
        · split
          · have hf : z.follow m = { z with role := 0, lead := m.fr, elapsed := 0 } := by unfold RS.follow; rw [if_neg (by omega)]
            rw [hf]
            exact ⟨z1, rfl, z3, .inl z4⟩
          · exact ⟨z1, z2, z3, .inl z4⟩
theorem step_same (hh : s.heeds m) (ht : m.tm = s.term) (h : s.id ∈ s.all) (hr : s.role = 2) : (s.step m).core = s.core := by
  unfold RS.step RS.step0 RS.turn
  rw [if_pos hh, if_neg (by omega), if_neg (by omega)]
  exact lead_stays h hr
theorem step_deaf (hh : ¬ s.heeds m) : s.step m = s := by
  unfold RS.step
  rw [if_neg hh]
theorem okG_all {n c : Nat} {s : RS} (h1 : 1 ≤ n) (h : okG n c s = true) : s.role = 2 ∧ s.term = 1 ∧ s.id = 1 ∧ s.b = 0 ∧ s.t = 0 ∧ s.l.length = c + 1 ∧ (∀ e ∈ s.l, e.tm = 1 ∧ e.kd ≠ 2) ∧ s.snap = idsN n ∧ s.ps.length = n - 1 ∧ (∀ x ∈ s.ps, x.2.mt = 0 ∧ x.2.rd = 0 ∧ 2 ≤ x.1 ∧ x.1 ≤ (n : Int)) ∧ s.commit = (if n = 1 then (c : Int) + 1 else 0) ∧ s.vote = 1 ∧ s.round = 0 ∧ s.votes.length ≤ 900 := by
  unfold okG at h
  simp only [Bool.and_eq_true, decide_eq_true_eq, List.all_eq_true] at h
  obtain ⟨a1, a2, a3, a4, a5, a6, a7, a8, a9, a10, a11, a12, a13, a14⟩ := h
  exact ⟨a1, a2, a3, a4, a5, a6, a7, a8, a9, fun x hx => by obtain ⟨b1, b2, b3, b4⟩ := a10 x hx; exact ⟨b1, b2, b3, b4⟩, a11, a12, a13, a14⟩
theorem no_conf2 {l : List En} (h : ∀ e ∈ l, e.kd ≠ 2) (tq : Int) : lmemV l tq = ([], 0) := by
  unfold lmemV
  have : lmem l tq = none := by
    unfold lmem
    rw [List.findSome?_eq_none_iff]
    intro e he
    unfold memOf
    rw [if_neg (fun hh => h e (List.mem_reverse.1 he) hh.1)]
  rw [this]
  rfl
theorem all_snap {s : RS} (h : ∀ e ∈ s.l, e.kd ≠ 2) : s.all = s.snap := by
  unfold RS.all RS.mem
  rw [no_conf2 h]
  rfl
theorem ids_one (n : Nat) (h : 1 ≤ n) : (1 : Int) ∈ idsN n := by
  unfold idsN
  exact List.mem_map.2 ⟨0, List.mem_range.2 (by omega), rfl⟩
end
end RF
end Go.Proofs.YtaodldagmmephaaGreat

