/- Merged texts: Rf26 Rf29 Rf30 Rf31. -/
import Derived.Test.YtaodldagmmephaaGreatA9
import Derived.Test.YtaodldagmmephaaGreatB1
import Derived.Test.YtaodldagmmephaaGreatA0
/- raft: a message that comes; late, follow, sure. -/
namespace Go.Proofs.YtaodldagmmephaaGreat
open Go.RowKit Go.Maps
namespace RF
/-- What of a message nobody looks at, and where its entries lie. -/
structure Mx where
  pe : Option Addr
  ce : Nat
  dn : Bool
  pm : Option Addr
  nm : Nat
  cm : Nat
  of : Int
  pp : Option Addr
  np : Nat
  cp : Nat
/-- A message that comes, as a value. -/
def mxval (m : Mg) (x : Mx) : Value := .agg #[.int .i64 m.kd, .int .i64 m.fr, .int .i64 m.tq, .int .i64 m.tm, .int .i64 m.ix, .int .i64 m.lt, .int .i64 m.cm, .int .i64 m.rd, .bool m.ok, .bool x.dn, .slice x.pe m.en.length x.ce, .slice x.pm x.nm x.cm, .int .i64 x.of, .slice x.pp x.np x.cp]
section
variable {rb base : Nat} {s : RS} {h : Hd} {w : World} {M : Int} {N : Nat}
set_option maxHeartbeats 2000000 in
set_option maxRecDepth 100000 in
theorem rf_late (m : Mg) (x : Mx) (H : Rf rb base s h w) (hms : h.mh.length ≤ 800000) :
    Calls Tryz.prog 54 #[.pointer (some ⟨rb, 0, none⟩), mxval m x] w fun e w' => e = .returned (.tuple #[]) ∧ ∃ h', Rf rb base (s.late m) h' w' ∧ PS rb h h' w w' ∧ h'.mh.length ≤ h.mh.length + 1 := by
  have hb1 : Below w.heap.size w (w.alloc (.cells #[.int .i64 m.kd, .int .i64 m.fr, .int .i64 m.tq, .int .i64 m.tm, .int .i64 m.ix, .int .i64 m.lt, .int .i64 m.cm, .int .i64 m.rd, .bool m.ok, .bool x.dn, .slice x.pe m.en.length x.ce, .slice x.pm x.nm x.cm, .int .i64 x.of, .slice x.pp x.np x.cp] 48)) := (Below.refl _ w).alloc (Nat.le_refl _) _
  have HH := Lib.hid H
  have HR1 := Lib.hid (H.below hb1)
  have HB1 := Lib.hid hb1
  have X1 := CBox.fresh w [.int .i64 m.kd, .int .i64 m.fr, .int .i64 m.tq, .int .i64 m.tm, .int .i64 m.ix, .int .i64 m.lt, .int .i64 m.cm, .int .i64 m.rd, .bool m.ok, .bool x.dn, .slice x.pe m.en.length x.ce, .slice x.pm x.nm x.cm, .int .i64 x.of, .slice x.pp x.np x.cp] 48
  unfold mxval
  clear H hb1
  go_enter Tryz.func54, Tryz.ntmps54
  go_upto_region 1 with fail
  dsimp only [List.toArray] at X1
  generalize w.alloc (.cells #[.int .i64 m.kd, .int .i64 m.fr, .int .i64 m.tq, .int .i64 m.tm, .int .i64 m.ix, .int .i64 m.lt, .int .i64 m.cm, .int .i64 m.rd, .bool m.ok, .bool x.dn, .slice x.pe m.en.length x.ce, .slice x.pm x.nm x.cm, .int .i64 x.of, .slice x.pp x.np x.cp] 48) = W1 at *
  have a0 := X1.1 0 _ rfl
  have a1 := X1.1 1 _ rfl
  have HSY := Lib.hid (fun (kd : Int) => rf_say2 ⟨kd, 0, m.fr, 0, 0, 0, 0, 0, false, []⟩ (.slice none 0 0) HR1.out (World.ownsRow_nil _ _ _ _) (fun k e => by cases e) (by omega) w h (PS.still HB1.out) (fun k e => by cases e))
  unfold mval at HSY
  dsimp only at HSY
  clear X1
  by_cases hk1 : m.kd = 1
  · have d1 : (m.kd == 1) = true := by simp [hk1]
    have HS : Hid (s.late m = s.say ⟨2, 0, m.fr, 0, 0, 0, 0, 0, false, []⟩) := Lib.hid (by unfold RS.late; rw [if_pos hk1]; rfl)
    clear hk1
    go_wp2_with fail
    with_reducible refine (HSY.out 2).mono ?_
    rintro e w2 ⟨rfl, h2, hr2, hp2, hm2⟩
    have HF := Lib.hid (And.intro hr2 (And.intro hp2 hm2))
    clear hr2 hp2 hm2
    go_wp2
    go_end0
    exact ⟨rfl, h2, by rw [HS.out]; exact HF.out.1, HF.out.2.1, by rw [HF.out.2.2]; exact Nat.le_refl _⟩
  have d1 : (m.kd == 1) = false := by simp [hk1]
  by_cases hk3 : m.kd = 3
  · have d3 : (m.kd == 3) = true := by simp [hk3]
    have HS : Hid (s.late m = s.say ⟨4, 0, m.fr, 0, 0, 0, 0, 0, false, []⟩) := Lib.hid (by unfold RS.late; rw [if_neg hk1, if_pos hk3]; rfl)
    clear hk1 hk3
    go_wp2_with fail
    with_reducible refine (HSY.out 4).mono ?_
    rintro e w2 ⟨rfl, h2, hr2, hp2, hm2⟩
    have HF := Lib.hid (And.intro hr2 (And.intro hp2 hm2))
    clear hr2 hp2 hm2
    go_wp2
    go_end0
    exact ⟨rfl, h2, by rw [HS.out]; exact HF.out.1, HF.out.2.1, by rw [HF.out.2.2]; exact Nat.le_refl _⟩
  have d3 : (m.kd == 3) = false := by simp [hk3]
  by_cases hk5 : m.kd = 5
  · have d5 : (m.kd == 5) = true := by simp [hk5]
    have HS : Hid (s.late m = s.say ⟨6, 0, m.fr, 0, 0, 0, 0, 0, false, []⟩) := Lib.hid (by unfold RS.late; rw [if_neg hk1, if_neg hk3, if_pos hk5]; rfl)
    clear hk1 hk3 hk5
    go_wp2_with fail
    with_reducible refine (HSY.out 6).mono ?_
    rintro e w2 ⟨rfl, h2, hr2, hp2, hm2⟩
    have HF := Lib.hid (And.intro hr2 (And.intro hp2 hm2))
    clear hr2 hp2 hm2
    go_wp2
    go_end0
    exact ⟨rfl, h2, by rw [HS.out]; exact HF.out.1, HF.out.2.1, by rw [HF.out.2.2]; exact Nat.le_refl _⟩
  have d5 : (m.kd == 5) = false := by simp [hk5]
  have HS : Hid (s.late m = s) := Lib.hid (by unfold RS.late; rw [if_neg hk1, if_neg hk3, if_neg hk5])
  clear hk1 hk3 hk5 HSY
  go_wp2
  go_end0
  exact ⟨rfl, h, by rw [HS.out]; exact HR1.out, PS.still HB1.out, Nat.le_succ _⟩

set_option maxHeartbeats 2000000 in
set_option maxRecDepth 100000 in
theorem rf_follow (m : Mg) (x : Mx) (H : Rf rb base s h w) :
    Calls Tryz.prog 58 #[.pointer (some ⟨rb, 0, none⟩), mxval m x] w fun e w' => e = .returned (.bool (!decide (s.role = 2))) ∧ Rf rb base (s.follow m) h w' ∧ PS rb h h w w' := by
  have hb1 : Below w.heap.size w (w.alloc (.cells #[.int .i64 m.kd, .int .i64 m.fr, .int .i64 m.tq, .int .i64 m.tm, .int .i64 m.ix, .int .i64 m.lt, .int .i64 m.cm, .int .i64 m.rd, .bool m.ok, .bool x.dn, .slice x.pe m.en.length x.ce, .slice x.pm x.nm x.cm, .int .i64 x.of, .slice x.pp x.np x.cp] 48)) := (Below.refl _ w).alloc (Nat.le_refl _) _
  have HH := Lib.hid H
  have HR1 := Lib.hid (H.below hb1)
  have hrl := Nat.ne_of_lt H.rlt
  have HB1 := Lib.hid hb1
  have X1 := CBox.fresh w [.int .i64 m.kd, .int .i64 m.fr, .int .i64 m.tq, .int .i64 m.tm, .int .i64 m.ix, .int .i64 m.lt, .int .i64 m.cm, .int .i64 m.rd, .bool m.ok, .bool x.dn, .slice x.pe m.en.length x.ce, .slice x.pm x.nm x.cm, .int .i64 x.of, .slice x.pp x.np x.cp] 48
  unfold mxval
  clear H hb1
  go_enter Tryz.func58, Tryz.ntmps58
  go_upto_region 1 with fail
  dsimp only [List.toArray] at X1
  generalize w.alloc (.cells #[.int .i64 m.kd, .int .i64 m.fr, .int .i64 m.tq, .int .i64 m.tm, .int .i64 m.ix, .int .i64 m.lt, .int .i64 m.cm, .int .i64 m.rd, .bool m.ok, .bool x.dn, .slice x.pe m.en.length x.ce, .slice x.pm x.nm x.cm, .int .i64 x.of, .slice x.pp x.np x.cp] 48) = W1 at *
  generalize w.heap.size = b1 at X1 hrl ⊢
  have a1 := X1.1 1 _ rfl
  have c1 : W1.cell? ⟨rb, 1, none⟩ = some (.int .i64 s.role) := HR1.out.cell 1 rfl
  have f1 : W1.frozen? ⟨rb, 1, none⟩ = false := HR1.out.fz 1 (by omega)
  have c2 : W1.cell? ⟨rb, 2, none⟩ = some (.int .i64 s.lead) := HR1.out.cell 2 rfl
  have f2 : W1.frozen? ⟨rb, 2, none⟩ = false := HR1.out.fz 2 (by omega)
  have c6 : W1.cell? ⟨rb, 6, none⟩ = some (.int .i64 s.elapsed) := HR1.out.cell 6 rfl
  have f6 : W1.frozen? ⟨rb, 6, none⟩ = false := HR1.out.fz 6 (by omega)
  clear X1
  by_cases hr : s.role = 2
  · have d1 : (s.role == 2) = true := by simp [hr]
    have HS : Hid (s.follow m = s) := Lib.hid (by unfold RS.follow; rw [if_pos hr])
    have HD : Hid ((!decide (s.role = 2)) = false) := Lib.hid (by rw [decide_eq_true hr]; rfl)
    clear hr
    go_wp2
    go_ret
    exact ⟨by rw [HD.out]; rfl, by rw [HS.out]; exact HR1.out, PS.still HB1.out⟩
  · have d1 : (s.role == 2) = false := by simp [hr]
    have HS : Hid (s.follow m = { s with role := 0, lead := m.fr, elapsed := 0 }) := Lib.hid (by unfold RS.follow; rw [if_neg hr])
    have HD : Hid ((!decide (s.role = 2)) = true) := Lib.hid (by rw [decide_eq_false hr]; rfl)
    clear hr
    have h3 := ((HR1.out.put { s with role := 0 } 1 (.int .i64 0) (by omega) rfl (same_refl s)).put { s with role := 0, lead := m.fr } 2 (.int .i64 m.fr) (by omega) rfl (same_refl s)).put { s with role := 0, lead := m.fr, elapsed := 0 } 6 (.int .i64 0) (by omega) rfl (same_refl s)
    have HF := Lib.hid (And.intro (h3.below (Below.refl _ _).drew) ((PS.still HB1.out).trans (PS.core (h := h) (rb := rb) (fr_core2 (fr_core2 (fr_core W1 rb 1 (.int .i64 0)) 2 (.int .i64 m.fr)) 6 (.int .i64 0)).drew)))
    clear h3
    go_upto_region 3 with fail
    go_region
    simp only [Exit.then]
    go_at_K
    go_wp2
    go_ret
    exact ⟨by rw [HD.out]; rfl, by rw [HS.out]; exact HF.out.1, HF.out.2⟩

set_option maxHeartbeats 2000000 in
set_option maxRecDepth 100000 in
theorem rf_sure (H : Rf rb base s h w) (hc : s.commit ≤ 9223372036854775807) :
    Calls Tryz.prog 80 #[.pointer (some ⟨rb, 0, none⟩)] w fun e w' => e = .returned (.bool s.sure) ∧ Below w.heap.size w w' := by
  have HH := Lib.hid H
  have q3 : ∀ q : Later w, q.1.cell? ⟨rb, 3, none⟩ = some (.int .i64 s.term) := H.q 3 rfl
  have q5 : ∀ q : Later w, q.1.cell? ⟨rb, 5, none⟩ = some (.int .i64 s.commit) := H.q 5 rfl
  have q10 : ∀ q : Later w, q.1.cell? ⟨rb, 10, none⟩ = some (.pointer (some ⟨h.xb, 0, none⟩)) := H.q 10 rfl
  have HTM := Lib.hid (fun W (hW : Below w.heap.size w W) => lg_term s.commit ((H.below hW).all .log) hc)
  unfold RS.sure
  obtain ⟨lt, ok, htv, hti⟩ := termV_is (termS s.b s.t s.l s.commit)
  rw [htv] at HTM
  have HTI := Lib.hid (hti s.term)
  have HTL : Hid (∀ q : Later w, Calls Tryz.prog 91 #[.pointer (some ⟨h.xb, 0, none⟩), .int .i64 s.commit] q.1 fun e w' => e = .returned (.tuple #[.int .i64 lt, .bool ok]) ∧ Below q.1.heap.size q.1 w') := Lib.hid (fun q => HTM.out q.1 q.2)
  clear H htv hti HTM
  go_enter Tryz.func80, Tryz.ntmps80
  go_wp2_with fail
  refine wp_region_later (by kernel_rfl) (by kernel_rfl) ?_
  repeat (go_big_quiet_step ((go_at_call 91; exact Calls.later_of (HTL.out _))))
  refine wpQuiet_nil ?_
  intro w3 hw'
  obtain ⟨⟨wq, hq⟩, hw''⟩ := hw'
  have hwe : w3 = wq := hw''
  clear hw''
  subst hwe
  have HB3 := Lib.hid hq
  have c3 : w3.cell? ⟨rb, 3, none⟩ = some (.int .i64 s.term) := q3 ⟨w3, HB3.out⟩
  clear q3 q5 q10 hq
  cases ok with
  | false =>
    have HN : Hid (decide (termS s.b s.t s.l s.commit = some s.term) = false) := Lib.hid (decide_eq_false (fun hc => by have := HTI.out.1 hc; cases this.1))
    go_wp2
    go_ret
    exact ⟨by rw [HN.out]; rfl, HB3.out⟩
  | true =>
    by_cases htt : lt = s.term
    · have d2 : (lt == s.term) = true := by simp [htt]
      have HN : Hid (decide (termS s.b s.t s.l s.commit = some s.term) = true) := Lib.hid (decide_eq_true (HTI.out.2 ⟨rfl, htt⟩))
      clear htt
      go_wp2
      go_ret
      exact ⟨by rw [HN.out]; rfl, HB3.out⟩
    · have d2 : (lt == s.term) = false := by simp [htt]
      have HN : Hid (decide (termS s.b s.t s.l s.commit = some s.term) = false) := Lib.hid (decide_eq_false (fun hc => htt (HTI.out.1 hc).2))
      clear htt
      go_wp2
      go_ret
      exact ⟨by rw [HN.out]; rfl, HB3.out⟩
end
end RF
end Go.Proofs.YtaodldagmmephaaGreat

/- raft: appReq. -/
namespace Go.Proofs.YtaodldagmmephaaGreat
open Go.RowKit Go.Maps
/-- A function value is called: R holds of what it returns. -/
def CallV (P : Program) (fv : Value) (args : Array Value) (w : World) (R : Value → World → Prop) : Prop :=
  ∃ f args', (do let d ← Deferred.ofValue fv args; invoke d.target d.args : Sem Next).run P w = .ok (.enter f args') w ∧ Calls P f args' w fun e w' => ∃ v, e = .returned v ∧ R v w'
section
variable {P : Program} {ops : Array Oper} {rest : List Oper} {a : Act} {w : World} {Q : Exit → Act → World → Prop} {fv v1 : Value} {R : Value → World → Prop}
  {r x1 : Operand} {ts : Array TypeId} {d : Option Tmp} {ty : TypeId} {pos : String} {af : Array Edge} {g : Option (Nat × Bool)}
theorem wpV1 (hC : CallV P fv #[v1] w R) (hw : Region.wanted ⟨d, .call { callee := .value r, args := #[x1], argTypes := ts }, ty, pos, af, g⟩ (yielded ops a.tmps) = true) (hit : a.eval r = fv) (h1 : a.eval x1 = v1)
    (h : ∀ v w', R v w' → wpList P ops Q rest (a.put d v) w') : wpList P ops Q (⟨d, .call { callee := .value r, args := #[x1], argTypes := ts }, ty, pos, af, g⟩ :: rest) a w := by
  refine wpList_step fun K hK => ?_
  rw [if_pos hw]
  obtain ⟨f, xs, e1, e2⟩ := hC
  have e3 : (execOp a.eval ⟨d, .call { callee := .value r, args := #[x1], argTypes := ts }, ty, pos, af, g⟩).run P w = .ok (.enter f xs) w := by
    rw [← e1]
    simp only [execOp, resolve, List.map_toArray, List.map_cons, List.map_nil, hit, h1]
  unfold Oper.wp
  rw [e3]
  simp only [Oper.upon]
  exact e2.mono fun e w' ⟨v, he, hr⟩ => by subst he; exact hK _ _ (h v w' hr)
end
/-- Reading goes on where the memory is left alone. -/
theorem RdG.stay {α : Type} {f : α → List Value} {w w' : World} {B n : Nat} {p : Option Addr} {zs : List α} {S : Nat → Prop} (h : RdG f w B p n zs) (hf : Fr S w w') (hB : B ≤ w.heap.size) (hS : ∀ g o, p = some ⟨g, o, none⟩ → ¬ S g) : RdG f w' B p n zs :=
  ⟨h.1, fun hn => by
    obtain ⟨b, o, e, hb, hc⟩ := h.2 hn
    exact ⟨b, o, e, hb, fun j u hu => (hf.cell (p := ⟨b, o + j, none⟩) (Nat.lt_of_lt_of_le hb hB) (hS b o e)).trans (hc j u hu)⟩⟩
namespace RF
/-- Is an entry of a later term? -/
def later (tm : Int) (e : En) : Bool := decide (tm < e.tm)
def lateV (b1 : Nat) : Value := .func (.func 101) #[] #[.pointer (some ⟨b1, 0, none⟩)]
set_option maxHeartbeats 2000000 in
set_option maxRecDepth 100000 in
theorem late_call (tm : Int) (b1 : Nat) (e : En) (w : World) (hc : w.cell? ⟨b1, 3, none⟩ = some (.int .i64 tm)) :
    CallV Tryz.prog (lateV b1) #[env e] w fun u w' => u = .bool (later tm e) ∧ Below w.heap.size w w' := by
  refine ⟨101, #[env e, .pointer (some ⟨b1, 0, none⟩)], by kernel_rfl, ?_⟩
  have hb1 : Below w.heap.size w (w.alloc (.cells #[.int .i64 e.ix, .int .i64 e.tm, .int .i64 e.kd, .string e.da] 25)) := (Below.refl _ w).alloc (Nat.le_refl _) _
  have HB1 := Lib.hid hb1
  have c3 := (hb1.cell (p := ⟨b1, 3, none⟩) (cell_lt hc)).trans hc
  unfold later env
  clear hb1 hc
  obtain ⟨e1, e2, e3, e4⟩ := e
  dsimp only at *
  by_cases h : tm < e2
  · have d1 : decide (tm < e2) = true := decide_eq_true h
    rw [d1]
    clear h
    go_enter Tryz.func101, Tryz.ntmps101
    go_wp2
    go_ret
    exact ⟨_, rfl, rfl, HB1.out⟩
  · have d1 : decide (tm < e2) = false := decide_eq_false h
    rw [d1]
    clear h
    go_enter Tryz.func101, Tryz.ntmps101
    go_wp2
    go_ret
    exact ⟨_, rfl, rfl, HB1.out⟩
theorem any_drop {f : En → Bool} {l : List En} {k : Nat} (hk : k < l.length) : (l.drop k).any f = (f (HL.el l k) || (l.drop (k + 1)).any f) := by
  have e : l.drop k = HL.el l k :: l.drop (k + 1) := by
    rw [List.drop_eq_getElem_cons hk]
    unfold HL.el
    simp [List.getD, List.getElem?_eq_getElem hk]
  rw [e, List.any_cons]
set_option maxHeartbeats 2000000 in
set_option maxRecDepth 100000 in
theorem idx_ens (tm : Int) (b1 : Nat) (p : Option Addr) (n c : Nat) (l : List En) (w : World) (h : RdG ecells w w.heap.size p n l) (hn : n ≤ 10000) (hc : w.cell? ⟨b1, 3, none⟩ = some (.int .i64 tm)) :
    Calls Tryz.prog 122 #[.slice p n c, lateV b1] w fun e w' => ∃ r : Int, e = .returned (.int .i64 r) ∧ decide (0 ≤ r) = l.any (later tm) ∧ Below w.heap.size w w' := by
  have HZ := Lib.hid h.1
  have HV := Lib.hid (fun e (wr : World) (hb : Below w.heap.size w wr) => late_call tm b1 e wr ((hb.cell (p := ⟨b1, 3, none⟩) (cell_lt hc)).trans hc))
  have HE := Lib.hid (fun (k : Nat) (hk : k < n) (wr : World) (hb : Below w.heap.size w wr) => (h.below hb).en k hk)
  have HB0 := Lib.hid (Below.refl w.heap.size w)
  generalize lateV b1 = cl at *
  clear h hc
  go_enter Tryz.func122, Tryz.ntmps122
  go_wp2
  go_loopw [8] (fun iv wr => ∃ k : Nat, k ≤ n ∧ iv = .int .i64 k ∧ Hid ((l.drop k).any (later tm) = l.any (later tm) ∧ Below w.heap.size w wr)) (fun iv _ => n - (intOf iv).toNat)
  case atStart => exact ⟨0, Nat.zero_le _, rfl, Lib.hid ⟨rfl, HB0.out⟩⟩
  case round =>
    clear HB0
    obtain ⟨k, hk, rfl, HR⟩ := hrel
    by_cases hlt : k < n
    · obtain ⟨g, o, hpg, hgl, e0, e1, e2, e3⟩ := HE.out k hlt wr HR.out.2
      subst hpg
      have HVK := Lib.hid (HV.out (HL.el l k) wr HR.out.2)
      have HAD := Lib.hid (any_drop (f := later tm) (l := l) (k := k) (by rw [HZ.out]; exact hlt))
      generalize HL.el l k = x at *
      obtain ⟨x1, x2, x3, x4⟩ := x
      unfold env at HVK
      dsimp only at *
      cases hg : later tm ⟨x1, x2, x3, x4⟩ with
      | true =>
        have HF : Hid (l.any (later tm) = true) := Lib.hid (by rw [← HR.out.1, HAD.out, hg]; rfl)
        rw [hg] at HVK
        clear hg
        go_wp2_with (first
          | ((with_reducible refine wpV1 HVK.out ?_ ?_ ?_ ?_); rfl; rfl; rfl; rintro u w3 ⟨rfl, hb3⟩; have HB3 := Lib.hid (HR.out.2.trans (hb3.mono HR.out.2.size)); clear hb3))
        go_ret
        exact ⟨_, rfl, by rw [HF.out]; exact decide_eq_true (Int.natCast_nonneg k), HB3.out⟩
      | false =>
        have HF : Hid ((l.drop (k + 1)).any (later tm) = l.any (later tm)) := Lib.hid (by rw [← HR.out.1, HAD.out, hg]; rfl)
        rw [hg] at HVK
        clear hg
        go_wp2_with (first
          | ((with_reducible refine wpV1 HVK.out ?_ ?_ ?_ ?_); rfl; rfl; rfl; rintro u w3 ⟨rfl, hb3⟩; have HB3 := Lib.hid (HR.out.2.trans (hb3.mono HR.out.2.size)); clear hb3))
        go_roundw
        case rel => exact ⟨k + 1, by omega, by go_num, Lib.hid ⟨HF.out, HB3.out⟩⟩
        case measure => simp [intOf]; omega
    · obtain rfl : k = n := by omega
      have HF : Hid (l.any (later tm) = false) := Lib.hid (by rw [← HR.out.1, List.drop_eq_nil_of_le (by rw [HZ.out]; exact Nat.le_refl _)]; rfl)
      have HBW := Lib.hid HR.out.2
      clear HR
      go_wp2
      go_ret
      exact ⟨_, rfl, by rw [HF.out]; decide, HBW.out⟩
set_option maxHeartbeats 2000000 in
set_option maxRecDepth 100000 in
theorem any_ens (tm : Int) (b1 : Nat) (p : Option Addr) (n c : Nat) (l : List En) (w : World) (h : RdG ecells w w.heap.size p n l) (hn : n ≤ 10000) (hc : w.cell? ⟨b1, 3, none⟩ = some (.int .i64 tm)) :
    Calls Tryz.prog 100 #[.slice p n c, lateV b1] w fun e w' => e = .returned (.bool (l.any (later tm))) ∧ Below w.heap.size w w' := by
  have HI := Lib.hid (idx_ens tm b1 p n c l w h hn hc)
  unfold lateV at *
  clear h hc
  go_enter Tryz.func100, Tryz.ntmps100
  go_wp2_with fail
  with_reducible refine (HI.out).mono ?_
  rintro e w2 ⟨r, rfl, hr, hb2⟩
  have HB2 := Lib.hid hb2
  have HRR := Lib.hid hr
  clear hb2 HI hr
  cases hd : decide (0 ≤ r) with
  | true =>
    have HF : Hid (l.any (later tm) = true) := Lib.hid (by rw [← HRR.out, hd])
    go_wp2
    go_ret
    exact ⟨by rw [HF.out]; rfl, HB2.out⟩
  | false =>
    have HF : Hid (l.any (later tm) = false) := Lib.hid (by rw [← HRR.out, hd])
    go_wp2
    go_ret
    exact ⟨by rw [HF.out]; rfl, HB2.out⟩
end RF
end Go.Proofs.YtaodldagmmephaaGreat

/- raft: appReq. -/
namespace Go.Proofs.YtaodldagmmephaaGreat
open Go.RowKit Go.Maps
namespace RF
/-- How a message's entries lie, apart from the core. -/
structure EnsAt (rb : Nat) (h : Hd) (m : Mg) (x : Mx) (w : World) : Prop where
  rd : RdG ecells w w.heap.size x.pe m.en.length m.en
  cap : m.en.length ≤ x.ce
  da : ∀ e ∈ m.en, e.da.size ≤ 2000000
  off : 0 < m.en.length → ∀ g o, x.pe = some ⟨g, o, none⟩ → ¬ Fo rb h g
section
variable {rb base : Nat} {s : RS} {h : Hd} {w : World} {M : Int} {N : Nat}
theorem _root_.Go.Proofs.YtaodldagmmephaaGreat.RdG.stay2 {α : Type} {f : α → List Value} {w w' : World} {B n : Nat} {p : Option Addr} {zs : List α} {S : Nat → Prop} (h : RdG f w B p n zs) (hf : Fr S w w') (hB : B ≤ w.heap.size) (hS : 0 < n → ∀ g o, p = some ⟨g, o, none⟩ → ¬ S g) : RdG f w' B p n zs :=
  ⟨h.1, fun hn => by
    obtain ⟨b, o, e, hb, hc⟩ := h.2 hn
    exact ⟨b, o, e, hb, fun j u hu => (hf.cell (p := ⟨b, o + j, none⟩) (Nat.lt_of_lt_of_le hb hB) (hS hn b o e)).trans (hc j u hu)⟩⟩
theorem EnsAt.below {m : Mg} {x : Mx} {w w' : World} (E : EnsAt rb h m x w) (hb : Below w.heap.size w w') : EnsAt rb h m x w' := ⟨(E.rd.below hb).more hb.size, E.cap, E.da, E.off⟩
theorem EnsAt.core {m : Mg} {x : Mx} {w w' : World} (E : EnsAt rb h m x w) (hf : Fr (fun k => k = rb) w w') : EnsAt rb h m x w' := ⟨(E.rd.stay2 hf (Nat.le_refl _) (fun h0 g o e e2 => E.off h0 g o e ⟨.core, e2⟩)).more hf.size, E.cap, E.da, E.off⟩
theorem Rf.commitTo (H : Rf rb base s h w) (x : Int) : Rf rb base { s with commit := x, out := { s.out with hd := true } } h ((w.setCell ⟨rb, 5, none⟩ (.int .i64 x)).setCell ⟨rb, 14, none⟩ (.bool true)) :=
  (H.put { s with commit := x } 5 (.int .i64 x) (by omega) rfl (same_refl s)).put { s with commit := x, out := { s.out with hd := true } } 14 (.bool true) (by omega) rfl (same_refl s)

theorem merge_no {b t : Int} {L : List En} {prev tm keep : Int} {l : List En} (h : (mergeS b t L prev tm keep l).1.2 = false) : (mergeS b t L prev tm keep l).2 = L := by
  unfold mergeS at h ⊢
  by_cases hq : termS b t L prev = some tm ∧ followB prev tm l = true
  · rw [if_pos hq] at h ⊢
    cases hm : mgo b t keep L 0 0 l with
    | none => rfl
    | some f =>
      cases f with
      | zero => rfl
      | succ F => rw [hm] at h; cases h
  · rw [if_neg hq]
theorem say_res (m : Mg) (ok : Bool) (ix : Int) {h0 : Hd} {W2 W3 : World} {b2 : Nat} (HR2 : Rf rb base s h W2) (hp2 : PS rb h0 h w W2) (hf : Fr (fun k => k = b2) W2 W3) (hb2 : w.heap.size ≤ b2) (hno : ∀ k, Fo rb h k → k ≠ b2) (hms : h.mh.length ≤ 900000) :
    Calls Tryz.prog 95 #[.pointer (some ⟨rb, 0, none⟩), .agg #[.int .i64 4, .int .i64 0, .int .i64 m.fr, .int .i64 0, .int .i64 ix, .int .i64 0, .int .i64 0, .int .i64 m.rd, .bool ok, .bool false, .slice none 0 0, .slice none 0 0, .int .i64 0, .slice none 0 0]] W3 fun e w' => e = .returned (.tuple #[]) ∧ ∃ h', Rf rb base (s.say (res m ok ix)) h' w' ∧ PS rb h0 h' w w' ∧ h'.mh.length = h.mh.length + 1 := by
  have hp3 : PS rb h0 h w W3 := ⟨Fr.trans hp2.1 (hf.mono (T := fun k => k = b2) (fun _ _ e => e)) (fun i hi hl => by have : i = b2 := hi; omega), hp2.2⟩
  exact rf_say2 (res m ok ix) (.slice none 0 0) (HR2.keep hf (fun k hk e => hno k hk e)) (World.ownsRow_nil _ _ _ _) (fun k e => by cases e) hms w h0 hp3 (fun k e => by cases e)

set_option maxHeartbeats 2000000 in
set_option maxRecDepth 100000 in
theorem rf_appReq (m : Mg) (x : Mx) (H : Rf rb base s h w) (B : RB M N s) (hx : m.ix ≤ 9223372036854775807) (hN : N + m.en.length ≤ 10000) (E : EnsAt rb h m x w) (hms : h.mh.length ≤ 800000) :
    Calls Tryz.prog 59 #[.pointer (some ⟨rb, 0, none⟩), mxval m x] w fun e w' => e = .returned (.tuple #[]) ∧ ∃ h', Rf rb base (s.appReq m) h' w' ∧ PS rb h h' w w' ∧ h'.mh.length ≤ h.mh.length + 1 := by
  have hb0 : Below w.heap.size w (w.alloc (.cells #[.int .i64 m.kd, .int .i64 m.fr, .int .i64 m.tq, .int .i64 m.tm, .int .i64 m.ix, .int .i64 m.lt, .int .i64 m.cm, .int .i64 m.rd, .bool m.ok, .bool x.dn, .slice x.pe m.en.length x.ce, .slice x.pm x.nm x.cm, .int .i64 x.of, .slice x.pp x.np x.cp] 48)) := (Below.refl _ w).alloc (Nat.le_refl _) _
  have X0 := CBox.fresh w [.int .i64 m.kd, .int .i64 m.fr, .int .i64 m.tq, .int .i64 m.tm, .int .i64 m.ix, .int .i64 m.lt, .int .i64 m.cm, .int .i64 m.rd, .bool m.ok, .bool x.dn, .slice x.pe m.en.length x.ce, .slice x.pm x.nm x.cm, .int .i64 x.of, .slice x.pp x.np x.cp] 48
  have hb1 : Below w.heap.size w ((w.alloc (.cells #[.int .i64 m.kd, .int .i64 m.fr, .int .i64 m.tq, .int .i64 m.tm, .int .i64 m.ix, .int .i64 m.lt, .int .i64 m.cm, .int .i64 m.rd, .bool m.ok, .bool x.dn, .slice x.pe m.en.length x.ce, .slice x.pm x.nm x.cm, .int .i64 x.of, .slice x.pp x.np x.cp] 48)).alloc (.cells #[.int .i64 4, .int .i64 0, .int .i64 m.fr, .int .i64 0, .int .i64 0, .int .i64 0, .int .i64 0, .int .i64 m.rd, .bool false, .bool false, .slice none 0 0, .slice none 0 0, .int .i64 0, .slice none 0 0] 48)) := hb0.alloc hb0.size _
  have X1 := CBox.fresh (w.alloc (.cells #[.int .i64 m.kd, .int .i64 m.fr, .int .i64 m.tq, .int .i64 m.tm, .int .i64 m.ix, .int .i64 m.lt, .int .i64 m.cm, .int .i64 m.rd, .bool m.ok, .bool x.dn, .slice x.pe m.en.length x.ce, .slice x.pm x.nm x.cm, .int .i64 x.of, .slice x.pp x.np x.cp] 48)) [.int .i64 4, .int .i64 0, .int .i64 m.fr, .int .i64 0, .int .i64 0, .int .i64 0, .int .i64 0, .int .i64 m.rd, .bool false, .bool false, .slice none 0 0, .slice none 0 0, .int .i64 0, .slice none 0 0] 48
  rw [World.size_alloc] at X1
  have X0 := X0.below ((Below.refl _ (w.alloc (.cells #[.int .i64 m.kd, .int .i64 m.fr, .int .i64 m.tq, .int .i64 m.tm, .int .i64 m.ix, .int .i64 m.lt, .int .i64 m.cm, .int .i64 m.rd, .bool m.ok, .bool x.dn, .slice x.pe m.en.length x.ce, .slice x.pm x.nm x.cm, .int .i64 x.of, .slice x.pp x.np x.cp] 48))).alloc (Nat.le_refl _) (.cells #[.int .i64 4, .int .i64 0, .int .i64 m.fr, .int .i64 0, .int .i64 0, .int .i64 0, .int .i64 0, .int .i64 m.rd, .bool false, .bool false, .slice none 0 0, .slice none 0 0, .int .i64 0, .slice none 0 0] 48))
  have hlt := H.rlt
  have HLT := Lib.hid (fun k (hk : Fo rb h k) => (H.lt hk).2)
  have HR1 := Lib.hid (H.below hb1)
  have HE1 := Lib.hid (E.below hb1)
  have HB1 := Lib.hid hb1
  have HBB := Lib.hid B
  have HS0 : Hid (s.appReq m = if m.ix < s.b then s.say (res m true s.commit)
  else if termS s.b s.t s.l m.ix ≠ some m.lt then s.say (res m false (max (min (m.ix - 1) s.last) 0))
  else if m.en.any (later m.tm) = true then s
  else if (mergeS s.b s.t s.l m.ix m.lt s.commit m.en).1.2 = false then s
  else
    let a : RS := { s with l := (mergeS s.b s.t s.l m.ix m.lt s.commit m.en).2 }
    let c := if 0 < (mergeS s.b s.t s.l m.ix m.lt s.commit m.en).1.1 then a.changed (mergeS s.b s.t s.l m.ix m.lt s.commit m.en).1.1 else a
    (c.appTo m (m.ix + (m.en.length : Int))).say (res m true (m.ix + (m.en.length : Int)))) := Lib.hid rfl
  have hb0' := (newOk_parts B.log).1
  have htop := B.top
  have hbig := B.big
  have HLA := Lib.hid B.lastE
  have hcm := B.commit
  have HLL := Lib.hid B.lastLo
  unfold mxval
  clear H hb0 hb1 E B
  go_enter Tryz.func59, Tryz.ntmps59
  go_upto_region 2 with fail
  dsimp only [List.toArray] at X0 X1
  generalize (w.alloc (.cells #[.int .i64 m.kd, .int .i64 m.fr, .int .i64 m.tq, .int .i64 m.tm, .int .i64 m.ix, .int .i64 m.lt, .int .i64 m.cm, .int .i64 m.rd, .bool m.ok, .bool x.dn, .slice x.pe m.en.length x.ce, .slice x.pm x.nm x.cm, .int .i64 x.of, .slice x.pp x.np x.cp] 48)).alloc (.cells #[.int .i64 4, .int .i64 0, .int .i64 m.fr, .int .i64 0, .int .i64 0, .int .i64 0, .int .i64 0, .int .i64 m.rd, .bool false, .bool false, .slice none 0 0, .slice none 0 0, .int .i64 0, .slice none 0 0] 48) = W1 at *
  obtain ⟨b1, hb1⟩ : ∃ b1, b1 = w.heap.size := ⟨_, rfl⟩
  rw [← hb1] at X0 X1 hlt ⊢
  obtain ⟨b2, hb2⟩ : ∃ b2, b2 = b1 + 1 := ⟨_, rfl⟩
  rw [← hb2] at X1 ⊢
  have hn1 : b2 ≠ b1 := by omega
  have hn1' : b1 ≠ b2 := by omega
  have hn2 : rb ≠ b2 := by omega
  have hn2' : b2 ≠ rb := by omega
  have hn3 : rb ≠ b1 := by omega
  have HE12 : Hid (b1 = w.heap.size ∧ b2 = w.heap.size + 1) := Lib.hid ⟨hb1, by omega⟩
  have HX0 := Lib.hid X0
  have HX1 := Lib.hid X1
  clear X0 X1 hb1 hb2
  -- from here on: W, b1, b2
  have a4 : ∀ q : Later W1, q.1.cell? ⟨b1, 4, none⟩ = some (.int .i64 m.ix) := fun q => (HX0.out.below q.2).1 4 _ rfl
  have HBA : Hid (∀ q : Later W1, Calls Tryz.prog 52 #[.pointer (some ⟨rb, 0, none⟩)] q.1 fun e w' => e = .returned (.int .i64 s.b) ∧ Below q.1.heap.size q.1 w') := Lib.hid (fun q => rf_base (HR1.out.below q.2))
  by_cases h1 : m.ix < s.b
  · have d1 : decide (m.ix < s.b) = true := decide_eq_true h1
    have HS : Hid (s.appReq m = s.say (res m true s.commit)) := Lib.hid (by rw [HS0.out, if_pos h1])
    clear h1 HS0
    go_wp2_with fail
    refine wp_region_later (by kernel_rfl) (by kernel_rfl) ?_
    repeat (go_big_quiet_step ((go_at_call 52; exact Calls.later_of (HBA.out _))))
    refine wpQuiet_nil ?_
    intro W2 hw'
    obtain ⟨⟨wq, hq⟩, hw''⟩ := hw'
    have hwe : W2 = wq := hw''
    clear hw''
    subst hwe
    have HB12 := Lib.hid hq
    have HX2 := Lib.hid (HX1.out.below hq)
    have HR2 := Lib.hid (HR1.out.below hq)
    have HY2 := Lib.hid (HX0.out.below hq)
    clear hq a4 HBA
    go_upto_region 3 with fail
    have c5 : W2.cell? ⟨rb, 5, none⟩ = some (.int .i64 s.commit) := HR2.out.cell 5 rfl
    have e4 := HX2.out.1 4 _ rfl
    have e8 := HX2.out.1 8 _ rfl
    have k4 := HX2.out.2.1 4 (by show 4 < 14; omega)
    have k8 := HX2.out.2.1 8 (by show 8 < 14; omega)
    go_region
    simp only [Exit.then]
    go_at_K
    have hx3 := ((HX2.out.set 8 (.bool true) (by show 8 < 14; omega)).set 4 (.int .i64 s.commit) (by show 4 < 14; omega)).below (Below.refl _ _).drew
    have hf3 : Fr (fun k => k = b2) W2 ((W2.setCell ⟨b2, 8, none⟩ (.bool true)).setCell ⟨b2, 4, none⟩ (.int .i64 s.commit)).drew := (((Fr.refl (fun k => k = b2) W2).setCell (p := ⟨b2, 8, none⟩) (fun _ => rfl) _).setCell (p := ⟨b2, 4, none⟩) (fun _ => rfl) _).drew
    have HSY := Lib.hid (say_res m true s.commit HR2.out (PS.still (HB1.out.trans (HB12.out.mono HB1.out.size))) hf3 (by have := HE12.out; omega) (fun k hk e => by have := HLT.out k hk; have := HE12.out; omega) (by omega))
    clear c5 e4 e8 k4 k8 HX2 HR2 HY2 HX0 HX1 HE1
    dsimp only [List.set] at hx3
    have HX3 := Lib.hid hx3
    clear hx3 hf3
    generalize ((W2.setCell ⟨b2, 8, none⟩ (.bool true)).setCell ⟨b2, 4, none⟩ (.int .i64 s.commit)).drew = W3 at *
    have r0 := (HX3.out).1 0 _ rfl
    have r1 := (HX3.out).1 1 _ rfl
    have r2 := (HX3.out).1 2 _ rfl
    have r3 := (HX3.out).1 3 _ rfl
    have r4 := (HX3.out).1 4 _ rfl
    have r5 := (HX3.out).1 5 _ rfl
    have r6 := (HX3.out).1 6 _ rfl
    have r7 := (HX3.out).1 7 _ rfl
    have r8 := (HX3.out).1 8 _ rfl
    have r9 := (HX3.out).1 9 _ rfl
    have r10 := (HX3.out).1 10 _ rfl
    have r11 := (HX3.out).1 11 _ rfl
    have r12 := (HX3.out).1 12 _ rfl
    have r13 := (HX3.out).1 13 _ rfl
    go_wp2_with fail
    with_reducible refine (HSY.out).mono ?_
    rintro e w8 ⟨rfl, h8, hr8, hp8, hl8⟩
    have HF := Lib.hid (And.intro hr8 (And.intro hp8 hl8))
    clear hr8 hp8 hl8 r0 r1 r2 r3 r4 r5 r6 r7 r8 r9 r10 r11 r12 r13
    go_wp2
    refine bodyPost_ret (results_none rfl _ _ _) rfl ?_
    exact ⟨rfl, h8, by rw [HS.out]; exact HF.out.1, HF.out.2.1, by rw [HF.out.2.2]; exact Nat.le_refl _⟩
  have d1 : decide (m.ix < s.b) = false := decide_eq_false h1
  have hix0 : s.b ≤ m.ix := by omega
  have HS1 := Lib.hid HS0.out
  rw [if_neg h1] at HS1
  clear h1 HS0
  go_wp2_with fail
  refine wp_region_later (by kernel_rfl) (by kernel_rfl) ?_
  repeat (go_big_quiet_step ((go_at_call 52; exact Calls.later_of (HBA.out _))))
  refine wpQuiet_nil ?_
  intro W2 hw'
  obtain ⟨⟨wq, hq⟩, hw''⟩ := hw'
  have hwe : W2 = wq := hw''
  clear hw''
  subst hwe
  have HB2 := Lib.hid (HB1.out.trans (hq.mono HB1.out.size))
  have HX2 := Lib.hid (HX1.out.below hq)
  have HR2 := Lib.hid (HR1.out.below hq)
  have HY2 := Lib.hid (HX0.out.below hq)
  have HE2 := Lib.hid (HE1.out.below hq)
  clear hq a4 HBA HX1 HX0 HR1 HE1 HB1 d1
  clear W1
  have a4 : ∀ q : Later W2, q.1.cell? ⟨b1, 4, none⟩ = some (.int .i64 m.ix) := fun q => (HY2.out.below q.2).1 4 _ rfl
  have q10 : ∀ q : Later W2, q.1.cell? ⟨rb, 10, none⟩ = some (.pointer (some ⟨h.xb, 0, none⟩)) := HR2.out.q 10 rfl
  have HTM := Lib.hid (fun W (hW : Below W2.heap.size W2 W) => lg_term m.ix ((HR2.out.below hW).all .log) hx)
  obtain ⟨lt, ok, htv, hti⟩ := termV_is (termS s.b s.t s.l m.ix)
  rw [htv] at HTM
  have HTI := Lib.hid (hti m.lt)
  have HTL : Hid (∀ q : Later W2, Calls Tryz.prog 91 #[.pointer (some ⟨h.xb, 0, none⟩), .int .i64 m.ix] q.1 fun e w' => e = .returned (.tuple #[.int .i64 lt, .bool ok]) ∧ Below q.1.heap.size q.1 w') := Lib.hid (fun q => HTM.out q.1 q.2)
  clear htv hti HTM
  go_upto_region 5 with fail
  refine wp_region_later (by kernel_rfl) (by kernel_rfl) ?_
  repeat (go_big_quiet_step ((go_at_call 91; exact Calls.later_of (HTL.out _))))
  refine wpQuiet_nil ?_
  intro W3 hw'
  obtain ⟨⟨wq, hq⟩, hw''⟩ := hw'
  have hwe : W3 = wq := hw''
  clear hw''
  subst hwe
  have HB3 := Lib.hid (HB2.out.trans (hq.mono HB2.out.size))
  have HX3 := Lib.hid (HX2.out.below hq)
  have HR3 := Lib.hid (HR2.out.below hq)
  have HY3 := Lib.hid (HY2.out.below hq)
  have HE3 := Lib.hid (HE2.out.below hq)
  clear hq a4 q10 HTL HX2 HR2 HY2 HE2 HB2
  clear W2
  have b5 := HY3.out.1 5 _ rfl
  have HDT : Hid (ok = true ∧ lt = m.lt ↔ termS s.b s.t s.l m.ix = some m.lt) := Lib.hid HTI.out.symm
  go_upto_region 6 with fail
  go_cut [46] (fun s46 wx => ∃ β : Bool, s46 = .bool β ∧ wx = W3 ∧ Hid (Dec β (termS s.b s.t s.l m.ix ≠ some m.lt)))
  case first =>
    cases ok with
    | false =>
      have HN : Hid (Dec true (termS s.b s.t s.l m.ix ≠ some m.lt)) := Lib.hid (Dec.t (fun hc => by have := HDT.out.2 hc; cases this.1))
      go_wp2
      go_meet
      case rel => exact ⟨_, rfl, rfl, HN⟩
    | true =>
      by_cases htt : lt = m.lt
      · have d2 : (lt != m.lt) = false := by simp [htt]
        have HN : Hid (Dec false (termS s.b s.t s.l m.ix ≠ some m.lt)) := Lib.hid (Dec.f (fun hc => hc (HDT.out.1 ⟨rfl, htt⟩)))
        clear htt
        go_wp2
        go_meet
        case rel => exact ⟨_, rfl, rfl, HN⟩
      · have d2 : (lt != m.lt) = true := by simp [htt]
        have HN : Hid (Dec true (termS s.b s.t s.l m.ix ≠ some m.lt)) := Lib.hid (Dec.t (fun hc => htt (HDT.out.2 hc).2))
        clear htt
        go_wp2
        go_meet
        case rel => exact ⟨_, rfl, rfl, HN⟩
  case rest =>
  obtain ⟨β, rfl, hwc, HBE⟩ := hcut
  subst hwc
  generalize wc = W3 at *
  clear b5 HDT HTI
  cases β with
  | true =>
    have HS : Hid (s.appReq m = s.say (res m false (max (min (m.ix - 1) s.last) 0))) := Lib.hid (by rw [HS1.out, if_pos (HBE.out.1 rfl)])
    have a4 : ∀ q : Later W3, q.1.cell? ⟨b1, 4, none⟩ = some (.int .i64 m.ix) := fun q => (HY3.out.below q.2).1 4 _ rfl
    have HL := Lib.hid (fun W (hW : Below W3.heap.size W3 W) => rf_last (HR3.out.below hW))
    have hw1 : IntKind.i64.wrap (m.ix - 1) = m.ix - 1 := IntWalk.i64_in _ (by omega)
    have HLN := Lib.hid HLL.out
    generalize s.last = la at *
    clear HS1 HBE HE3
    go_wp2_with fail
    refine Mix.region_mix (n := 8) (m := 5) (fun V => ∃ q : Later W3, V = q.1) [0, 1, 2, 3] (by kernel_rfl) rfl rfl (by kernel_rfl) (by kernel_rfl) ⟨⟨_, (Below.refl _ _).drew⟩, rfl⟩ ?_
    repeat (refine Mix.picks_step rfl ?_; go_big_quiet_step (fail))
    refine Mix.picks_nil ?_
    intro inv
    refine sink_one (i := 4) (by kernel_rfl) rfl (by omega) inv (fun K hK => ?_)
    have HKK := Lib.hid hK
    clear hK
    go_simp
    with_reducible refine (HL.out _ (Below.refl _ _).drew).mono ?_
    rintro e W4 ⟨rfl, hb4⟩
    have HB4 : Hid (Below W3.heap.size W3 W4) := Lib.hid ((Below.refl _ _).drew.trans (hb4.mono (Nat.le_refl _)))
    clear hb4
    refine HKK.out _ _ ⟨⟨_, HB4.out⟩, rfl⟩ ?_
    clear HKK inv
    intro hS inv
    (try simp only [Act.put]); (try simp only [List.setIfInBounds_toArray]); (try simp only [List.set_cons_succ]); (try simp only [List.set_cons_zero])
    refine sink_one (i := 5) (by kernel_rfl) rfl (by omega) inv (fun K hK => ?_)
    have HKK := Lib.hid hK
    clear hK
    go_simp
    refine HKK.out _ _ ⟨⟨_, HB4.out⟩, rfl⟩ ?_
    clear HKK inv
    intro hS inv
    (try simp only [Act.put]); (try simp only [List.setIfInBounds_toArray]); (try simp only [List.set_cons_succ]); (try simp only [List.set_cons_zero])
    refine sink_one (i := 6) (by kernel_rfl) rfl (by omega) inv (fun K hK => ?_)
    have HKK := Lib.hid hK
    clear hK
    go_simp
    refine HKK.out _ _ ⟨⟨_, HB4.out⟩, rfl⟩ ?_
    clear HKK inv
    intro hS inv
    (try simp only [Act.put]); (try simp only [List.setIfInBounds_toArray]); (try simp only [List.set_cons_succ]); (try simp only [List.set_cons_zero])
    refine Mix.more2 [7] (m := 1) rfl (by kernel_rfl) (by kernel_rfl) inv ⟨⟨_, HB4.out⟩, rfl⟩ (Mix.picks_cons rfl Mix.picks_end) ?_
    repeat (go_big_quiet_step (fail))
    refine wpQuiet_nil ?_
    clear inv
    intro inv
    have HX4 := Lib.hid (HX3.out.below HB4.out)
    have e4 := HX4.out.1 4 _ rfl
    have k4 := HX4.out.2.1 4 (by show 4 < 14; omega)
    refine sink_last (by kernel_rfl) rfl (by kernel_rfl) (fun K hK => ?_)
    have HKK := Lib.hid hK
    clear hK
    go_simp
    refine HKK.out _ _ ⟨rfl, ?_⟩
    clear HKK inv hS
    have hx5 := HX4.out.set 4 (.int .i64 (max (min (m.ix - 1) la) 0)) (by show 4 < 14; omega)
    have hf5 : Fr (fun k => k = b2) W4 (W4.setCell ⟨b2, 4, none⟩ (.int .i64 (max (min (m.ix - 1) la) 0))) := (Fr.refl (fun k => k = b2) W4).setCell (p := ⟨b2, 4, none⟩) (fun _ => rfl) _
    have HSY := Lib.hid (say_res m false (max (min (m.ix - 1) la) 0) (HR3.out.below HB4.out) (PS.still (HB3.out.trans (HB4.out.mono HB3.out.size))) hf5 (by have := HE12.out; omega) (fun k hk e => by have := HLT.out k hk; have := HE12.out; omega) (by omega))
    clear e4 k4 HX4 HX3 HR3 a4 HL hw1
    dsimp only [List.set] at hx5
    have HX5 := Lib.hid hx5
    clear hx5 hf5
    generalize max (min (m.ix - 1) la) 0 = ixr at *
    generalize W4.setCell ⟨b2, 4, none⟩ (.int .i64 ixr) = W5 at *
    have r0 := (HX5.out).1 0 _ rfl
    have r1 := (HX5.out).1 1 _ rfl
    have r2 := (HX5.out).1 2 _ rfl
    have r3 := (HX5.out).1 3 _ rfl
    have r4 := (HX5.out).1 4 _ rfl
    have r5 := (HX5.out).1 5 _ rfl
    have r6 := (HX5.out).1 6 _ rfl
    have r7 := (HX5.out).1 7 _ rfl
    have r8 := (HX5.out).1 8 _ rfl
    have r9 := (HX5.out).1 9 _ rfl
    have r10 := (HX5.out).1 10 _ rfl
    have r11 := (HX5.out).1 11 _ rfl
    have r12 := (HX5.out).1 12 _ rfl
    have r13 := (HX5.out).1 13 _ rfl
    go_wp2_with fail
    with_reducible refine (HSY.out).mono ?_
    rintro e w8 ⟨rfl, h8, hr8, hp8, hl8⟩
    have HF := Lib.hid (And.intro hr8 (And.intro hp8 hl8))
    clear hr8 hp8 hl8 r0 r1 r2 r3 r4 r5 r6 r7 r8 r9 r10 r11 r12 r13
    go_wp2
    refine bodyPost_ret (results_none rfl _ _ _) rfl ?_
    exact ⟨rfl, h8, by rw [HS.out]; exact HF.out.1, HF.out.2.1, by rw [HF.out.2.2]; exact Nat.le_refl _⟩
  | false =>
  have hteq : termS s.b s.t s.l m.ix = some m.lt := by
    by_cases h : termS s.b s.t s.l m.ix = some m.lt
    · exact h
    · have := HBE.out.2 h; cases this
  have HS2 := Lib.hid HS1.out
  rw [if_neg (fun h => h hteq)] at HS2
  have hix1 := (term_has hteq).2
  have HTQ := Lib.hid hteq
  clear hteq HS1 HBE
  have b10 := HY3.out.1 10 _ rfl
  have HAN := Lib.hid (any_ens m.tm b1 x.pe m.en.length x.ce m.en W3 HE3.out.rd (by omega) (HY3.out.1 3 _ rfl))
  unfold lateV at HAN
  go_wp2_with fail
  with_reducible refine (HAN.out).mono ?_
  rintro e W4 ⟨rfl, hb4⟩
  have HB4 := Lib.hid (HB3.out.trans (hb4.mono HB3.out.size))
  have HX4 := Lib.hid (HX3.out.below hb4)
  have HR4 := Lib.hid (HR3.out.below hb4)
  have HY4 := Lib.hid (HY3.out.below hb4)
  have HE4 := Lib.hid (HE3.out.below hb4)
  clear hb4 b10 HAN HX3 HR3 HY3 HE3 HB3
  clear W3
  cases hany : m.en.any (later m.tm) with
  | true =>
    have HS : Hid (s.appReq m = s) := Lib.hid (by rw [HS2.out, if_pos hany])
    clear hany
    go_wp2
    refine bodyPost_ret (results_none rfl _ _ _) rfl ?_
    exact ⟨rfl, h, by rw [HS.out]; exact HR4.out, PS.still HB4.out, Nat.le_succ _⟩
  | false =>
  have HS3 := Lib.hid HS2.out
  rw [if_neg (by rw [hany]; exact Bool.false_ne_true)] at HS3
  clear hany HS2
  have HNL : Hid (¬ lgF h.xb h.lv rb) := Lib.hid (fun e => by have := HR4.out.dis .log .core rb e rfl; cases this)
  have HNB : Hid (¬ lgF h.xb h.lv b1 ∧ ¬ lgF h.xb h.lv b2) := Lib.hid ⟨fun e => by have := HLT.out b1 ⟨.log, e⟩; have := HE12.out; omega, fun e => by have := HLT.out b2 ⟨.log, e⟩; have := HE12.out; omega⟩
  have q5 : ∀ q : KeptF (lgF h.xb h.lv) W4, q.1.cell? ⟨rb, 5, none⟩ = some (.int .i64 s.commit) := fun q => (q.2.cell (p := ⟨rb, 5, none⟩) HR4.out.rlt HNL.out).trans (HR4.out.cell 5 rfl)
  have q10 : ∀ q : KeptF (lgF h.xb h.lv) W4, q.1.cell? ⟨rb, 10, none⟩ = some (.pointer (some ⟨h.xb, 0, none⟩)) := fun q => (q.2.cell (p := ⟨rb, 10, none⟩) HR4.out.rlt HNL.out).trans (HR4.out.cell 10 rfl)
  have a4 : ∀ q : KeptF (lgF h.xb h.lv) W4, q.1.cell? ⟨b1, 4, none⟩ = some (.int .i64 m.ix) := fun q => (HY4.out.keep q.2 HNB.out.1).1 4 _ rfl
  have a5 : ∀ q : KeptF (lgF h.xb h.lv) W4, q.1.cell? ⟨b1, 5, none⟩ = some (.int .i64 m.lt) := fun q => (HY4.out.keep q.2 HNB.out.1).1 5 _ rfl
  have a10 : ∀ q : KeptF (lgF h.xb h.lv) W4, q.1.cell? ⟨b1, 10, none⟩ = some (.slice x.pe m.en.length x.ce) := fun q => (HY4.out.keep q.2 HNB.out.1).1 10 _ rfl
  have hla := HLA.out
  have HMG := Lib.hid (fun W (hW : Below W4.heap.size W4 W) => lg_merge2 m.ix m.lt s.commit x.pe m.en.length x.ce m.en ((HR4.out.below hW).all .log) (by omega) (HE4.out.below hW).rd HE4.out.cap (fun i hi => HE4.out.da _ (by
    have h1 : m.en[i]? = some m.en[i] := List.getElem?_eq_getElem hi
    have h2 : HL.el m.en i = m.en[i] := by unfold HL.el; simp [List.getD, h1]
    rw [h2]
    exact List.getElem_mem hi)) (by have := HBB.out.few; omega) (fun h0 g o e e2 => HE4.out.off h0 g o e ⟨.log, .inl e2⟩))
  go_wp2_with fail
  refine Mix.region_mix (n := 19) (m := 6) (fun V => ∃ q : KeptF (lgF h.xb h.lv) W4, V = q.1) [0, 1, 2, 3, 4, 5, 6, 7, 8, 9, 10, 11, 12, 13] (by kernel_rfl) rfl rfl (by kernel_rfl) (by kernel_rfl) ⟨⟨_, (Fr.refl _ _).drew⟩, rfl⟩ ?_
  repeat (refine Mix.picks_step rfl ?_; go_big_quiet_step (fail))
  refine Mix.picks_nil ?_
  intro inv
  refine sink_one (i := 14) (by kernel_rfl) rfl (by omega) inv (fun K hK => ?_)
  have HKK := Lib.hid hK
  clear hK
  go_simp
  with_reducible refine (HMG.out _ (Below.refl _ _).drew).mono ?_
  rintro e W5 ⟨rfl, v5, hl5, hf5, hv5⟩
  have hf45 : Fr (lgF h.xb h.lv) W4 W5 := Fr.trans (Fr.refl _ W4).drew hf5 (fun i hi _ => hi)
  have HF5 := Lib.hid hf45
  have hlg := HR4.out.logged hl5 hf45 hv5
  have HR5 : Hid (Rf rb base { s with l := (mergeS s.b s.t s.l m.ix m.lt s.commit m.en).2 } { h with lv := v5 } W5) := Lib.hid hlg.1
  have HP5 := Lib.hid ((PS.still HB4.out).trans hlg.2)
  have HP45 := Lib.hid hlg.2.2
  clear hl5 hf5 hv5 hf45 hlg
  refine HKK.out _ _ ⟨⟨_, HF5.out⟩, rfl⟩ ?_
  clear HKK inv
  intro hS inv
  (try simp only [Act.put]); (try simp only [List.setIfInBounds_toArray]); (try simp only [List.set_cons_succ]); (try simp only [List.set_cons_zero])
  refine Mix.more2 [15, 16, 17, 18] (m := 1) rfl (by kernel_rfl) (by kernel_rfl) inv ⟨⟨_, HF5.out⟩, rfl⟩ (Mix.picks_cons rfl (Mix.picks_cons rfl (Mix.picks_cons rfl (Mix.picks_cons rfl Mix.picks_end)))) ?_
  repeat (go_big_quiet_step (fail))
  refine wpQuiet_nil ?_
  clear inv
  intro inv
  refine sink_last (by kernel_rfl) rfl (by kernel_rfl) (fun K hK => ?_)
  have HKK := Lib.hid hK
  clear hK
  go_simp
  refine HKK.out _ _ ⟨rfl, ?_⟩
  clear HKK inv hS
  have HX5 := Lib.hid (HX4.out.keep HF5.out HNB.out.2)
  have HY5 := Lib.hid (HY4.out.keep HF5.out HNB.out.1)
  have HLT5 : Hid (∀ k, Fo rb { h with lv := v5 } k → k ≠ b2) := Lib.hid (fun k hk => by
    obtain ⟨p, hk⟩ := hk
    have hxx := HX4.out.2.2
    have hyy := HE12.out
    rcases HP45.out p k hk with h9 | h9
    · have := HLT.out k ⟨p, h9⟩
      omega
    · omega)
  have HNO := Lib.hid (fun (h0 : (mergeS s.b s.t s.l m.ix m.lt s.commit m.en).1.2 = false) => merge_no h0)
  clear q5 q10 a4 a5 a10 HMG HX4 HR4 HY4 HE4 HF5 HB4 HP45 HNL HNB
  clear W4
  generalize hmm : mergeS s.b s.t s.l m.ix m.lt s.commit m.en = mm at *
  obtain ⟨⟨fro, oki⟩, ln⟩ := mm
  dsimp only at HS3 HR5 HNO ⊢
  clear hmm
  cases oki with
  | false =>
    have HS : Hid (s.appReq m = s) := Lib.hid (by rw [HS3.out, if_pos rfl])
    have HL : Hid (ln = s.l) := Lib.hid (HNO.out rfl)
    go_wp2
    refine bodyPost_ret (results_none rfl _ _ _) rfl ?_
    exact ⟨rfl, { h with lv := v5 }, by
      rw [HS.out]
      have := HR5.out
      rw [HL.out] at this
      exact this, HP5.out, Nat.le_succ _⟩
  | true =>
  have HS4 : Hid (s.appReq m = ((if 0 < fro then ({ s with l := ln } : RS).changed fro else { s with l := ln }).appTo m (m.ix + (m.en.length : Int))).say (res m true (m.ix + (m.en.length : Int)))) := Lib.hid (by rw [HS3.out, if_neg (by decide)])
  clear HS3 HNO
  obtain ⟨h5, hh5⟩ : ∃ h5 : Hd, h5 = { h with lv := v5 } := ⟨_, rfl⟩
  have HMH : Hid (h5.mh = h.mh) := Lib.hid (by rw [hh5])
  rw [← hh5] at HR5 HP5 HLT5
  clear hh5
  have HCH := Lib.hid (rf_changed fro HR5.out)
  go_upto_if 83 with fail
  go_cut [] (fun wx => Hid (Rf rb base (if 0 < fro then ({ s with l := ln } : RS).changed fro else { s with l := ln }) h5 wx ∧ Fr (fun k => k = rb) W5 wx))
  case first =>
    by_cases hf0 : 0 < fro
    · have d3 : decide (0 < fro) = true := decide_eq_true hf0
      have HI : Hid ((if 0 < fro then ({ s with l := ln } : RS).changed fro else { s with l := ln }) = ({ s with l := ln } : RS).changed fro) := Lib.hid (if_pos hf0)
      go_wp2_with fail
      with_reducible refine (HCH.out).mono ?_
      rintro e W6 ⟨rfl, hr6, hf6⟩
      have HF : Hid (Rf rb base (if 0 < fro then ({ s with l := ln } : RS).changed fro else { s with l := ln }) h5 W6 ∧ Fr (fun k => k = rb) W5 W6) := Lib.hid ⟨by rw [HI.out]; exact hr6, hf6⟩
      clear hr6 hf6
      go_wp2
      go_meet
      case rel => exact HF
    · have d3 : decide (0 < fro) = false := decide_eq_false hf0
      have HF : Hid (Rf rb base (if 0 < fro then ({ s with l := ln } : RS).changed fro else { s with l := ln }) h5 W5 ∧ Fr (fun k => k = rb) W5 W5) := Lib.hid ⟨by rw [if_neg hf0]; exact HR5.out, Fr.refl _ _⟩
      have hf1 : fro ≤ 0 := by omega
      go_wp2
      go_meet
      case rel => exact HF
  case rest =>
  have HC := Lib.hid hcut.out
  clear hcut
  generalize wc = W6 at *
  have HZC : Hid ((if 0 < fro then ({ s with l := ln } : RS).changed fro else { s with l := ln }).commit = s.commit) := Lib.hid (by
    split
    · unfold RS.changed
      split <;> rfl
    · rfl)
  generalize (if 0 < fro then ({ s with l := ln } : RS).changed fro else { s with l := ln }) = z at *
  have HX6 := Lib.hid (HX5.out.keep HC.out.2 (fun e => hn2' e))
  have HY6 := Lib.hid (HY5.out.keep HC.out.2 (fun e => hn3 e.symm))
  have HP6 := Lib.hid (HP5.out.trans (PS.core HC.out.2))
  have HR6 := Lib.hid HC.out.1
  have HW6 := Lib.hid HX6.out.2.2
  clear HX5 HY5 HP5 HC HR5 HCH
  clear W5
  have a4 := HY6.out.1 4 _ rfl
  have a10 := HY6.out.1 10 _ rfl
  have e4 := HX6.out.1 4 _ rfl
  have e8 := HX6.out.1 8 _ rfl
  have k4 := HX6.out.2.1 4 (by show 4 < 14; omega)
  have k8 := HX6.out.2.1 8 (by show 8 < 14; omega)
  obtain ⟨X, hX⟩ : ∃ X, X = m.ix + (m.en.length : Int) := ⟨_, rfl⟩
  have hwX : IntKind.i64.wrap (m.ix + (m.en.length : Int)) = X := by rw [hX]; exact IntWalk.i64_in _ (by omega)
  rw [← hX] at HS4
  have HXE := Lib.hid hX
  clear hX
  go_upto_region 14 with fail
  go_region
  simp only [Exit.then]
  go_at_K
  have hx7 := ((HX6.out.set 8 (.bool true) (by show 8 < 14; omega)).set 4 (.int .i64 X) (by show 4 < 14; omega)).below (Below.refl _ _).drew
  have hf7 : Fr (fun k => k = b2) W6 ((W6.setCell ⟨b2, 8, none⟩ (.bool true)).setCell ⟨b2, 4, none⟩ (.int .i64 X)).drew := (((Fr.refl (fun k => k = b2) W6).setCell (p := ⟨b2, 8, none⟩) (fun _ => rfl) _).setCell (p := ⟨b2, 4, none⟩) (fun _ => rfl) _).drew
  have HF7 := Lib.hid hf7
  dsimp only [List.set] at hx7
  have HX7 := Lib.hid hx7
  have HY7 := Lib.hid (HY6.out.keep hf7 hn1')
  have HR7 := Lib.hid (HR6.out.keep hf7 (fun k hk e => HLT5.out k hk e))
  have HP7 : Hid (PS rb h h5 w _) := Lib.hid ⟨Fr.trans HP6.out.1 (hf7.mono (T := fun k => k = b2) (fun _ _ e => e)) (fun i hi hl => by have : i = b2 := hi; have := HE12.out; omega), HP6.out.2⟩
  clear a4 a10 e4 e8 k4 k8 hx7 hf7 HX6 HY6 HR6 HP6
  generalize ((W6.setCell ⟨b2, 8, none⟩ (.bool true)).setCell ⟨b2, 4, none⟩ (.int .i64 X)).drew = W7 at *
  have a6 := HY7.out.1 6 _ rfl
  have e4 := HX7.out.1 4 _ rfl
  have c5 : W7.cell? ⟨rb, 5, none⟩ = some (.int .i64 z.commit) := HR7.out.cell 5 rfl
  have f5 := HR7.out.fz 5 (by omega)
  have c14 : W7.cell? ⟨rb, 14, none⟩ = some (.bool z.out.hd) := HR7.out.cell 14 rfl
  have f14 := HR7.out.fz 14 (by omega)
  have HS5 : Hid (∀ y : RS, z.appTo m X = y → s.appReq m = y.say (res m true X)) := Lib.hid (fun y hy => by rw [HS4.out, hy])
  have HAT : Hid (z.appTo m X = if z.commit < min m.cm X then { z with commit := min m.cm X, out := { z.out with hd := true } } else z) := Lib.hid rfl
  obtain ⟨Y, hY⟩ : ∃ Y, Y = min m.cm X := ⟨_, rfl⟩
  rw [← hY] at HAT
  have HCT := Lib.hid (HR7.out.commitTo Y)
  have HW7 := Lib.hid HX7.out.2.2
  go_upto_if 105 with fail
  rw [← hY]
  clear hY
  go_cut [] (fun wx => Hid (Rf rb base (z.appTo m X) h5 wx ∧ Fr (fun k => k = rb) W7 wx))
  case first =>
    by_cases hyc : z.commit < Y
    · have d4 : decide (z.commit < Y) = true := decide_eq_true hyc
      have HF : Hid (Rf rb base (z.appTo m X) h5 ((W7.setCell ⟨rb, 5, none⟩ (.int .i64 Y)).setCell ⟨rb, 14, none⟩ (.bool true)) ∧ Fr (fun k => k = rb) W7 ((W7.setCell ⟨rb, 5, none⟩ (.int .i64 Y)).setCell ⟨rb, 14, none⟩ (.bool true))) := Lib.hid ⟨by rw [HAT.out, if_pos hyc]; exact HCT.out, fr_core2 (fr_core _ _ _ _) _ _⟩
      go_wp2
      go_meet
      case rel => exact HF
    · have d4 : decide (z.commit < Y) = false := decide_eq_false hyc
      have HF : Hid (Rf rb base (z.appTo m X) h5 W7 ∧ Fr (fun k => k = rb) W7 W7) := Lib.hid ⟨by rw [HAT.out, if_neg hyc]; exact HR7.out, Fr.refl _ _⟩
      have hy1 : Y ≤ z.commit := by omega
      go_wp2
      go_meet
      case rel => exact HF
  case rest =>
  have HC := Lib.hid hcut.out
  clear hcut c5 f5 c14 f14 a6 e4 HR7 HCT HAT
  generalize wc = W8 at *
  have HX8 := Lib.hid (HX7.out.keep HC.out.2 (fun e => hn2' e))
  have HSY := Lib.hid (say_res m true X HC.out.1 (HP7.out.trans (PS.core HC.out.2)) (Fr.refl (fun k => k = b2) W8) (by have := HE12.out; omega) (fun k hk e => HLT5.out k hk e) (by rw [HMH.out]; omega))
  have r0 := (HX8.out).1 0 _ rfl
  have r1 := (HX8.out).1 1 _ rfl
  have r2 := (HX8.out).1 2 _ rfl
  have r3 := (HX8.out).1 3 _ rfl
  have r4 := (HX8.out).1 4 _ rfl
  have r5 := (HX8.out).1 5 _ rfl
  have r6 := (HX8.out).1 6 _ rfl
  have r7 := (HX8.out).1 7 _ rfl
  have r8 := (HX8.out).1 8 _ rfl
  have r9 := (HX8.out).1 9 _ rfl
  have r10 := (HX8.out).1 10 _ rfl
  have r11 := (HX8.out).1 11 _ rfl
  have r12 := (HX8.out).1 12 _ rfl
  have r13 := (HX8.out).1 13 _ rfl
  go_wp2_with fail
  with_reducible refine (HSY.out).mono ?_
  rintro e w8 ⟨rfl, h8, hr8, hp8, hl8⟩
  have HF := Lib.hid (And.intro hr8 (And.intro hp8 hl8))
  clear hr8 hp8 hl8 r0 r1 r2 r3 r4 r5 r6 r7 r8 r9 r10 r11 r12 r13
  go_wp2
  go_end0
  exact ⟨rfl, h8, by rw [HS5.out _ rfl]; exact HF.out.1, HF.out.2.1, by rw [HF.out.2.2, HMH.out]; exact Nat.le_refl _⟩
end
end RF
end Go.Proofs.YtaodldagmmephaaGreat

/- raft: a peer is written. -/
namespace Go.Proofs.YtaodldagmmephaaGreat
open Go.RowKit Go.Maps
namespace RF
def prc (p : Pr) : List Value := [.int .i64 p.nx, .int .i64 p.mt, .int .i64 p.rd]
def phset (ph : List (Int × Pr × Nat)) (id : Int) (p : Pr) : List (Int × Pr × Nat) := ph.map fun x => if x.1 == id then (id, p, x.2.2) else x
theorem nodup_inj {α β : Type} {f : α → β} : ∀ {l : List α} {x y : α}, (l.map f).Nodup → x ∈ l → y ∈ l → f x = f y → x = y
  | [], _, _, _, h, _, _ => absurd h List.not_mem_nil
  | a :: l, x, y, hn, hx, hy, e => by
    rw [List.map_cons, List.nodup_cons] at hn
    rcases List.mem_cons.1 hx with hx1 | hx1
    · rcases List.mem_cons.1 hy with hy1 | hy1
      · rw [hx1, hy1]
      · exact absurd (show f a ∈ l.map f from List.mem_map.2 ⟨y, hy1, by rw [← e, hx1]⟩) hn.1
    · rcases List.mem_cons.1 hy with hy1 | hy1
      · exact absurd (show f a ∈ l.map f from List.mem_map.2 ⟨x, hx1, by rw [e, hy1]⟩) hn.1
      · exact nodup_inj hn.2 hx1 hy1 e
theorem pset_same : ∀ {ps : List (Int × Pr)} {id : Int} {p : Pr}, (ps.map (·.1)).Nodup → pget ps id = some p → pset ps id p = ps
  | [], _, _, _, _ => rfl
  | x :: ps, id, p, hn, h => by
    rw [List.map_cons, List.nodup_cons] at hn
    have hrest : ∀ (q : Pr), id ∉ ps.map (·.1) → pset ps id q = ps := fun q hno => by
      unfold pset
      have : ∀ y ∈ ps, (if y.1 == id then (id, q) else y) = y := fun y hy => by
        rw [if_neg]
        intro e
        exact hno (List.mem_map.2 ⟨y, hy, by simpa using e⟩)
      rw [List.map_congr_left this, List.map_id']
    show (if x.1 == id then (id, p) else x) :: pset ps id p = x :: ps
    by_cases e : x.1 = id
    · have hb : (x.1 == id) = true := by simp [e]
      rw [if_pos hb, hrest p (by rw [← e]; exact hn.1)]
      unfold pget at h
      rw [List.find?_cons, hb] at h
      injection h with h
      rw [← e, ← h]
    · have hb : (x.1 == id) = false := by simp [e]
      rw [if_neg (by rw [hb]; exact Bool.false_ne_true)]
      unfold pget at h
      rw [List.find?_cons, hb] at h
      rw [pset_same hn.2 h]
theorem pset_pset (ps : List (Int × Pr)) (id : Int) (a b : Pr) : pset (pset ps id a) id b = pset ps id b := by
  unfold pset
  rw [List.map_map]
  refine List.map_congr_left (fun x _ => ?_)
  show (let y := if x.1 == id then (id, a) else x; if y.1 == id then (id, b) else y) = if x.1 == id then (id, b) else x
  by_cases h : x.1 = id
  · have hb : (x.1 == id) = true := by simp [h]
    simp [hb]
  · have hb : (x.1 == id) = false := by simp [h]
    simp [hb]
theorem phset_ps (ph : List (Int × Pr × Nat)) (id : Int) (p : Pr) : (phset ph id p).map (fun x => (x.1, x.2.1)) = pset (ph.map (fun x => (x.1, x.2.1))) id p := by
  unfold phset pset
  rw [List.map_map, List.map_map]
  refine List.map_congr_left (fun x _ => ?_)
  show (let y := if x.1 == id then (id, p, x.2.2) else x; (y.1, y.2.1)) = if x.1 == id then (id, p) else (x.1, x.2.1)
  by_cases h : (x.1 == id) = true
  · rw [if_pos h, if_pos h]
  · rw [if_neg h, if_neg h]
theorem phset_ptrs (ph : List (Int × Pr × Nat)) (id : Int) (p : Pr) : ptrs (phset ph id p) = ptrs ph := by
  unfold phset ptrs
  rw [List.map_map]
  refine List.map_congr_left (fun x _ => ?_)
  show (let y := if x.1 == id then (id, p, x.2.2) else x; ((y.1, .pointer (some ⟨y.2.2, 0, none⟩)) : Int × Value)) = (x.1, .pointer (some ⟨x.2.2, 0, none⟩))
  by_cases h : x.1 = id
  · rw [if_pos (by simp [h])]; simp [h]
  · rw [if_neg (by simp [h])]
theorem phset_blocks (ph : List (Int × Pr × Nat)) (id : Int) (p : Pr) : (phset ph id p).map (·.2.2) = ph.map (·.2.2) := by
  unfold phset
  rw [List.map_map]
  refine List.map_congr_left (fun x _ => ?_)
  show (if x.1 == id then (id, p, x.2.2) else x).2.2 = x.2.2
  by_cases h : (x.1 == id) = true
  · rw [if_pos h]
  · rw [if_neg h]
theorem phset_mem {ph : List (Int × Pr × Nat)} {id : Int} {p q : Pr} {pb : Nat} (h : (id, q, pb) ∈ ph) : (id, p, pb) ∈ phset ph id p := by
  unfold phset
  exact List.mem_map.2 ⟨_, h, by simp⟩
section
variable {rb base : Nat} {s : RS} {h : Hd} {w : World} {M : Int} {N : Nat}
theorem PS.off {h h' : Hd} {w w' : World} (hp : PS rb h h' w w') {b : Nat} (hb : b < w.heap.size) (hno : ¬ Fo rb h b) : ¬ Fo rb h' b := fun ⟨p, hk⟩ => by
  rcases hp.2 p b hk with e | e
  · exact hno ⟨p, e⟩
  · omega
theorem Rf.kn1 (H : Rf rb base s h w) (hn : (s.ps.map (·.1)).Nodup) {id : Int} {p q : Pr} {pb qb : Nat} (h1 : (id, p, pb) ∈ h.ph) (h2 : (id, q, qb) ∈ h.ph) : (p, pb) = (q, qb) := by
  have e := H.psE
  rw [← e, List.map_map] at hn
  have := nodup_inj hn h1 h2 rfl
  injection this
theorem Rf.prE (H : Rf rb base s h w) (hn : (s.ps.map (·.1)).Nodup) {id : Int} {p : Pr} {pb : Nat} (h1 : (id, p, pb) ∈ h.ph) : pget s.ps id = some p := pget_mem hn (by rw [← H.psE]; exact List.mem_map.2 ⟨_, h1, rfl⟩)
theorem setPr_same {s : RS} {id : Int} {p : Pr} (hn : (s.ps.map (·.1)).Nodup) (h : pget s.ps id = some p) : s.setPr id p = s := by
  unfold RS.setPr
  rw [pset_same hn h]
theorem setPr_setPr (s : RS) (id : Int) (a b : Pr) : (s.setPr id a).setPr id b = s.setPr id b := by
  unfold RS.setPr
  rw [pset_pset]
/-- A cell of a peer's box is stored. -/
theorem Rf.peerSet (H : Rf rb base s h w) (hn : (s.ps.map (·.1)).Nodup) {id : Int} {p : Pr} {pb : Nat} (hx : (id, p, pb) ∈ h.ph) (p' : Pr) (j : Nat) (u : Value) (hj : j < 3) (hc : prc p' = (prc p).set j u) :
    Rf rb base (s.setPr id p') { h with ph := phset h.ph id p' } (w.setCell ⟨pb, j, none⟩ u) ∧ PS rb h { h with ph := phset h.ph id p' } w (w.setCell ⟨pb, j, none⟩ u) := by
  have hF : Fr (fun k => k = pb) w (w.setCell ⟨pb, j, none⟩ u) := (Fr.refl (fun k => k = pb) w).setCell (p := ⟨pb, j, none⟩) (fun _ => rfl) _
  have hpb : part rb h .peers pb := ⟨_, hx, rfl⟩
  have hP := H.all .peers
  have hpart : ∀ q k, part rb { h with ph := phset h.ph id p' } q k → part rb h q k := by
    intro q k hk
    cases q with
    | peers =>
      obtain ⟨x, hx, e⟩ := hk
      have : k ∈ (phset h.ph id p').map (·.2.2) := List.mem_map.2 ⟨x, hx, e⟩
      rw [phset_blocks] at this
      obtain ⟨y, hy, e⟩ := List.mem_map.1 this
      exact ⟨y, hy, e⟩
    | core => exact hk
    | log => exact hk
    | snap => exact hk
    | map => exact hk
    | votes => exact hk
    | msgs => exact hk
    | ents => exact hk
    | need => exact hk
  refine ⟨H.upd (fun q => q = .peers) (fun _ _ => False) hF (fun k hk q hq => ?_) (fun q hq => ?_) (fun q hq hh => ?_) (fun q k hk => .inl (hpart q k hk)) (fun _ _ _ e => e.elim), hF.mono (fun k _ e => ⟨.peers, by rw [show k = pb from e]; exact hpb⟩), fun q k hk => .inl (hpart q k hk)⟩
  · have e : k = pb := hk
    subst e
    exact H.dis q .peers k hq hpb
  · subst hq
    refine ⟨fun x hx' => ?_, ?_, ?_⟩
    · have hx2 : x ∈ phset h.ph id p' := hx'
      unfold phset at hx2
      obtain ⟨y, hy, e⟩ := List.mem_map.1 hx2
      obtain ⟨yi, yp, yb⟩ := y
      by_cases hi : yi = id
      · subst hi
        have hkk := H.kn1 hn hx hy
        injection hkk with e1 e2
        subst e1 e2
        have e : x = (yi, p', pb) := by rw [← e]; simp
        subst e
        obtain ⟨⟨a, b, c, d⟩, hlo⟩ := hP.1 _ hx
        have hcell : ∀ i v, (prc p')[i]? = some v → (w.setCell ⟨pb, j, none⟩ u).cell? ⟨pb, i, none⟩ = some v := by
          intro i v hv
          rw [hc] at hv
          have hold : ∀ i v, (prc p)[i]? = some v → w.cell? ⟨pb, i, none⟩ = some v := by
            intro i v hv
            match i with
            | 0 => injection hv with hv; rw [← hv]; exact a
            | 1 => injection hv with hv; rw [← hv]; exact b
            | 2 => injection hv with hv; rw [← hv]; exact c
            | i + 3 => cases hv
          by_cases hij : i = j
          · subst hij
            rw [List.getElem?_set_self (by show i < 3; omega)] at hv
            injection hv with hv
            subst hv
            obtain ⟨u0, hu0⟩ : ∃ u0, (prc p)[i]? = some u0 := ⟨_, List.getElem?_eq_getElem (by show i < 3; omega)⟩
            exact cell_set_same _ _ _ _ (hold i u0 hu0)
          · rw [List.getElem?_set_ne (fun e => hij e.symm)] at hv
            rw [World.cell?_setCell_other _ _ _ _ (by intro e; injection e with _ e _; exact hij e.symm)]
            exact hold i v hv
        exact ⟨⟨hcell 0 _ rfl, hcell 1 _ rfl, hcell 2 _ rfl, fun k hk => by rw [frozen_set]; exact d k hk⟩, hlo⟩
      · have e : x = (yi, yp, yb) := by rw [← e, if_neg (by simp [hi])]
        subst e
        obtain ⟨⟨a, b, c, d⟩, hlo⟩ := hP.1 _ hy
        have hne : yb ≠ pb := by
          intro e
          have := nodup_inj hP.2.2 hy hx e
          injection this with this
          exact hi this
        have hcc : ∀ i, (w.setCell ⟨pb, j, none⟩ u).cell? ⟨yb, i, none⟩ = w.cell? ⟨yb, i, none⟩ := fun i => World.cell?_setCell_other _ _ _ _ (by intro e; injection e with e _ _; exact hne e.symm)
        exact ⟨⟨(hcc 0).trans a, (hcc 1).trans b, (hcc 2).trans c, fun k hk => by rw [frozen_set]; exact d k hk⟩, hlo⟩
    · show (phset h.ph id p').map (fun x => (x.1, x.2.1)) = pset s.ps id p'
      rw [phset_ps, hP.2.1]
    · show ((phset h.ph id p').map (·.2.2)).Nodup
      rw [phset_blocks]
      exact hP.2.2
  · cases q with
    | peers => exact absurd rfl hq
    | core => exact hh
    | log => exact hh
    | snap => exact hh
    | map =>
      show heldM h.mb (phset h.ph id p').length (ptrs (phset h.ph id p')) _ ∧ _
      rw [phset_ptrs]
      unfold phset
      rw [List.length_map]
      exact hh
    | votes => exact hh
    | msgs => exact hh
    | ents => exact hh
    | need => exact hh
theorem EnsAt.ps {m : Mg} {x : Mx} {w w' : World} (E : EnsAt rb h m x w) (hp : PS rb h h w w') : EnsAt rb h m x w' := ⟨(E.rd.stay2 hp.1 (Nat.le_refl _) E.off).more hp.1.size, E.cap, E.da, E.off⟩
theorem fin_of {s : RS} (h : s.out = ot0) : s.fin = s := by
  unfold RS.fin
  rw [← h]
theorem ToldAt.lower {b b' : Nat} {o : Ot} {h' : Hd} {v : Value} {W : World} (t : ToldAt rb b o h' v W) (hb : b' ≤ b) : ToldAt rb b' o h' v W := by
  obtain ⟨ov, nv, mh, e, h1, h2, h3, h4, h5⟩ := t
  exact ⟨ov, nv, mh, e, h1, own_lo h2 hb, fun x hx => own_lo (h3 x hx) hb, own_lo h4 hb, h5⟩
theorem Ans.lower {h0 : Hd} {Wa w' : World} {e : Ending} (A : Ans rb base s h0 Wa e w') (hb : Below w.heap.size w Wa) : Ans rb base s h0 w e w' := by
  obtain ⟨v, h', rfl, hc, hr, hp, ht⟩ := A
  exact ⟨v, h', rfl, hc, hr, (PS.still hb).trans hp, ht.lower hb.size⟩
/-- Nothing is done, nothing told. -/
theorem Ans.still {w' : World} (H : Rf rb base s h w) (hc : h.clean) (ho : s.out = ot0) (hb : Below w.heap.size w w') : Ans rb base s h w (.returned outZ) w' := by
  refine ⟨_, h, rfl, hc, by rw [fin_of ho]; exact H.below hb, PS.still hb, .slice none 0 0, .slice none 0 0, [], ?_, ?_, World.ownsRow_nil _ _ _ _, fun x hx => absurd hx List.not_mem_nil, ?_, ?_⟩
  · unfold RS.told
    rw [ho]
    rfl
  · unfold RS.told
    rw [ho]
    rfl
  · have e : (RS.told s).nd = [] := by
      unfold RS.told
      rw [ho]
      show CL.nrm [] = []
      have := CL.nrm_length []
      exact List.eq_nil_of_length_eq_zero (Nat.le_zero.1 this)
    rw [e]
    exact World.ownsRow_nil _ _ _ _
  · rintro k (e | ⟨x, hx, _⟩ | e)
    · cases e
    · exact absurd hx List.not_mem_nil
    · cases e
end
end RF
end Go.Proofs.YtaodldagmmephaaGreat

