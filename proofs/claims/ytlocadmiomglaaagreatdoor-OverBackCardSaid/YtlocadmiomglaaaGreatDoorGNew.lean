/- pager.New. -/
import Derived.Test.YtlocadmiomglaaaGreatDoorB8
namespace Go.Proofs.YtlocadmiomglaaaGreatDoor
open Go.RowKit Go.Maps Go.Conc

/-- A function value is called: R holds of what it returns. -/
def CallF (P : Program) (fv : Value) (args : Array Value) (w : World) (R : Value → World → Prop) : Prop :=
  ∃ f args', (do let d ← Deferred.ofValue fv args; invoke d.target d.args : Sem Next).run P w = .ok (.enter f args') w ∧ Calls P f args' w fun e w' => ∃ v, e = .returned v ∧ R v w'

section
variable {P : Program} {ops : Array Oper} {rest : List Oper} {a : Act} {w : World} {Q : Exit → Act → World → Prop} {fv v1 : Value} {R : Value → World → Prop}
  {r x1 : Operand} {ts : Array TypeId} {d : Option Tmp} {ty : TypeId} {pos : String} {af : Array Edge} {g : Option (Nat × Bool)}
theorem wpF1 (hC : CallF P fv #[v1] w R) (hw : Region.wanted ⟨d, .call { callee := .value r, args := #[x1], argTypes := ts }, ty, pos, af, g⟩ (yielded ops a.tmps) = true) (hit : a.eval r = fv) (h1 : a.eval x1 = v1)
    (h : ∀ v w', R v w' → wpList P ops Q rest (a.put d v) w') : wpList P ops Q (⟨d, .call { callee := .value r, args := #[x1], argTypes := ts }, ty, pos, af, g⟩ :: rest) a w := by
  refine wpList_step fun K hK => ?_
  rw [if_pos hw]
  obtain ⟨f, xs, e1, e2⟩ := hC
  have e3 : (execOp a.eval ⟨d, .call { callee := .value r, args := #[x1], argTypes := ts }, ty, pos, af, g⟩).run P w = .ok (.enter f xs) w := by
    rw [← e1]
    simp only [execOp, resolve, List.map_toArray, List.map_cons, List.map_nil, hit, h1]
  unfold Oper.wp
  rw [e3]
  simp only [Oper.upon]
  exact e2.mono fun e w' ⟨v, he, hr⟩ => by subst he; exact hK _ _ (h v w' hr)
end

def newV (B : Nat) : Value := .func (.func 46) #[] #[.pointer (some ⟨B, 0, none⟩)]

set_option maxRecDepth 100000 in
theorem new_fn (B : Nat) (x n : Int) (w : World) (h : w.cell? ⟨B, 0, none⟩ = some (.int .i64 n)) (h1 : ¬ x < 2) (h2 : ¬ n ≤ x) : CallF Tryz.prog (newV B) #[.int .i64 x] w fun v w' => v = .bool false ∧ w' = w := by
  refine ⟨46, #[.int .i64 x, .pointer (some ⟨B, 0, none⟩)], by kernel_rfl, ?_⟩
  go_enter Tryz.func46, Tryz.ntmps46
  go_wp2
  go_ret
  exact ⟨_, rfl, rfl, rfl⟩

set_option maxHeartbeats 1000000 in
set_option maxRecDepth 100000 in
theorem index_no (fv : Value) (p : Option Addr) (n c : Nat) (zs : List Int) (w : World) (h : RdI w w.heap.size p n zs) (hn : n ≤ 1000000) (hf : ∀ k, k < n → CallF Tryz.prog fv #[.int .i64 (HL.el zs k)] w fun v w' => v = .bool false ∧ w' = w) :
    Calls Tryz.prog 123 #[.slice p n c, fv] w fun e w' => e = .returned (.int .i64 (-1)) ∧ w' = w := by
  have H := Lib.hid h
  have HF := Lib.hid hf
  clear h hf
  go_enter Tryz.func123, Tryz.ntmps123
  go_wp2
  go_loopw [5, 8] (fun _ iv wr => ∃ k : Nat, k ≤ n ∧ iv = .int .i64 k ∧ wr = w) (fun _ iv _ => n - (intOf iv).toNat)
  case atStart => exact ⟨0, Nat.zero_le _, rfl, rfl⟩
  case round =>
    obtain ⟨k, hk, rfl, rfl⟩ := hrel
    by_cases hlt : k < n
    · obtain ⟨b, o, e, _, hc⟩ := H.out.2 (by omega)
      have hcell := hc k hlt
      have HC := Lib.hid (HF.out k hlt)
      subst e
      clear hc
      generalize HL.el zs k = x at *
      go_wp2_with (first
        | (refine wpF1 HC.out rfl rfl rfl ?_; rintro v wv ⟨rfl, rfl⟩)
        | fail)
      go_roundw
      case rel => exact ⟨k + 1, by omega, by go_num, trivial⟩
      case measure => simp [intOf]; omega
    · obtain rfl : k = n := by omega
      go_wp2
      go_ret
      exact ⟨rfl, rfl⟩

set_option maxRecDepth 100000 in
theorem contains_no (fv : Value) (p : Option Addr) (n c : Nat) (zs : List Int) (w : World) (h : RdI w w.heap.size p n zs) (hn : n ≤ 1000000) (hf : ∀ k, k < n → CallF Tryz.prog fv #[.int .i64 (HL.el zs k)] w fun v w' => v = .bool false ∧ w' = w) :
    Calls Tryz.prog 44 #[.slice p n c, fv] w fun e w' => e = .returned (.bool false) ∧ w' = w := by
  have HI := Lib.hid (index_no fv p n c zs w h hn hf)
  clear h hf
  generalize fv = f at *
  go_enter Tryz.func44, Tryz.ntmps44
  go_wp2_with fail
  refine HI.out.mono ?_
  rintro e w1 ⟨rfl, rfl⟩
  go_wp2
  go_ret
  exact ⟨rfl, rfl⟩

/-- A pager that was just made. -/
def pgNew (db dbase : Nat) (most : Int) (sy nw : List ByteArray) (wr : List Wr) (fb fbase : Nat) (l : List Int) (fw : List (Int × Int)) (n : Nat) (txn : Int) (bm bd bw sb sbase : Nat) : PgS :=
  { db := db, dbase := dbase, most := most, sy := sy, nw := nw, wr := wr, fb := fb, fbase := fbase, l := l, fw := fw, base := n, pages := n, txn := txn, bm := bm, bd := bd, bw := bw, nm := 0, A := [], D := [], W := [], sb := sb, sbase := sbase, sp := [] }

section
variable {db dbase fb fbase base : Nat} {most : Int} {sy nw : List ByteArray} {wr : List Wr} {l : List Int} {fw : List (Int × Int)} {Fd Ff : Nat → Prop} {w : World}

theorem new_fin {pb n bm bd bw sb sbase : Nat} {txn : Int} {Fs : Nat → Prop} {w3 w4 : World} (hD : Dv db dbase most true false 0 sy nw wr Fd w3) (hF : Fe fb fbase l fw 0 (.map []) Ff w3) (hap : ∀ k, Fd k → ¬ Ff k) (hgd : ∀ k, Fd k → base ≤ k) (hgf : ∀ k, Ff k → base ≤ k)
    (hpb : pb < w3.heap.size) (hbp : base ≤ pb) (hpd : ¬ Fd pb) (hpf : ¬ Ff pb)
    (c0 : w3.cell? ⟨pb, 0, none⟩ = some (.pointer (some ⟨db, 0, none⟩))) (c1 : w3.cell? ⟨pb, 1, none⟩ = some (.pointer (some ⟨fb, 0, none⟩))) (c2 : w3.cell? ⟨pb, 2, none⟩ = some (.int .i64 n)) (c3 : w3.cell? ⟨pb, 3, none⟩ = some (.int .i64 n)) (c4 : w3.cell? ⟨pb, 4, none⟩ = some (.int .i64 txn)) (fz : ∀ k, k < 9 → w3.frozen? ⟨pb, k, none⟩ = false)
    (hC : ClrR pb w3 bm bd bw sb sbase Fs w4) : ∃ U, Pg pb base (pgNew db dbase most sy nw wr fb fbase l fw n txn bm bd bw sb sbase) U w4 ∧ (∀ k, U k → Fd k ∨ Ff k ∨ k = pb ∨ w3.heap.size ≤ k) := by
  obtain ⟨hm, hd, hw, hs⟩ := hC.apart
  have kd := hD.keep hC.fr (fun k hk e => hpd (by rw [show pb = k from e.symm]; exact hk))
  have kf := hF.keep hC.fr (fun k hk e => hpf (by rw [show pb = k from e.symm]; exact hk))
  have ld := hD.lt
  have lf := hF.lt
  refine ⟨_, ⟨fun i => match i with | 0 => fun k => k = pb | 1 => Fd | 2 => Ff | 3 => fun k => k = bm | 4 => fun k => k = bd | 5 => fun k => k = bw | 6 => Fs | _ => fun _ => False, ⟨fun i => ?_, fun i j k hij hi hj => ?_, fun i k hi => ?_, ?_⟩, rfl⟩, ?_⟩
  · match i with
    | 0 => exact ⟨⟨(hC.cx 0 (by omega)).trans c0, (hC.cx 1 (by omega)).trans c1, (hC.cx 2 (by omega)).trans c2, (hC.cx 3 (by omega)).trans c3, (hC.cx 4 (by omega)).trans c4, hC.c5, hC.c6, hC.c7, hC.c8, fun k hk => (hC.fz k).trans (fz k hk)⟩, rfl⟩
    | 1 => exact kd
    | 2 => exact kf
    | 3 => exact ⟨hC.made, rfl⟩
    | 4 => exact ⟨hC.drp, rfl⟩
    | 5 => exact ⟨hC.was, rfl⟩
    | 6 => exact hC.spa
    | n + 7 => exact rfl
  · have key : ∀ i, (match i with | 0 => fun k => k = pb | 1 => Fd | 2 => Ff | 3 => fun k => k = bm | 4 => fun k => k = bd | 5 => fun k => k = bw | 6 => Fs | _ => fun _ => False : Nat → Prop) k → (i = 0 ∧ k = pb) ∨ (i = 1 ∧ Fd k) ∨ (i = 2 ∧ Ff k) ∨ (i = 3 ∧ k = w3.heap.size) ∨ (i = 4 ∧ k = w3.heap.size + 1) ∨ (i = 5 ∧ k = w3.heap.size + 2) ∨ (i = 6 ∧ w3.heap.size + 3 ≤ k) := fun i h => by
      match i, h with
      | 0, h => exact .inl ⟨rfl, h⟩
      | 1, h => exact .inr (.inl ⟨rfl, h⟩)
      | 2, h => exact .inr (.inr (.inl ⟨rfl, h⟩))
      | 3, h => exact .inr (.inr (.inr (.inl ⟨rfl, by have h : k = bm := h; omega⟩)))
      | 4, h => exact .inr (.inr (.inr (.inr (.inl ⟨rfl, by have h : k = bd := h; omega⟩))))
      | 5, h => exact .inr (.inr (.inr (.inr (.inr (.inl ⟨rfl, by have h : k = bw := h; omega⟩)))))
      | 6, h => exact .inr (.inr (.inr (.inr (.inr (.inr ⟨rfl, hs k h⟩)))))
      | n + 7, h => exact h.elim
    have hd1 : Fd k → k < w3.heap.size ∧ ¬ Ff k ∧ k ≠ pb := fun h => ⟨ld k h, hap k h, fun e => hpd (by rw [← e]; exact h)⟩
    have hf1 : Ff k → k < w3.heap.size ∧ ¬ Fd k ∧ k ≠ pb := fun h => ⟨lf k h, fun h2 => hap k h2 h, fun e => hpf (by rw [← e]; exact h)⟩
    rcases key i hi with ⟨rfl, h1⟩ | ⟨rfl, h1⟩ | ⟨rfl, h1⟩ | ⟨rfl, h1⟩ | ⟨rfl, h1⟩ | ⟨rfl, h1⟩ | ⟨rfl, h1⟩ <;> rcases key j hj with ⟨rfl, h2⟩ | ⟨rfl, h2⟩ | ⟨rfl, h2⟩ | ⟨rfl, h2⟩ | ⟨rfl, h2⟩ | ⟨rfl, h2⟩ | ⟨rfl, h2⟩ <;> first
      | exact absurd rfl hij
      | omega
      | exact (hd1 h1).2.1 h2
      | exact (hd1 h2).2.1 h1
      | (have := hd1 h1; omega)
      | (have := hd1 h2; omega)
      | (have := hf1 h1; omega)
      | (have := hf1 h2; omega)
  · match i, hi with
    | 0, h => have h : k = pb := h; omega
    | 1, h => exact hgd k h
    | 2, h => exact hgf k h
    | 3, h => have h : k = bm := h; omega
    | 4, h => have h : k = bd := h; omega
    | 5, h => have h : k = bw := h; omega
    | 6, h => have := hs k h; omega
    | n + 7, h => exact h.elim
  · have := hC.fr.size
    omega
  · rintro k ⟨i, hi⟩
    match i, hi with
    | 0, h => exact .inr (.inr (.inl h))
    | 1, h => exact .inl h
    | 2, h => exact .inr (.inl h)
    | 3, h => have h : k = bm := h; exact .inr (.inr (.inr (by omega)))
    | 4, h => have h : k = bd := h; exact .inr (.inr (.inr (by omega)))
    | 5, h => have h : k = bw := h; exact .inr (.inr (.inr (by omega)))
    | 6, h => exact .inr (.inr (.inr (by have := hs k h; omega)))
    | n + 7, h => exact h.elim

set_option maxHeartbeats 2000000 in
set_option maxRecDepth 100000 in
theorem pg_new (n : Nat) (txn : Int) (hD : Dv db dbase most true false 0 sy nw wr Fd w) (hF : Fe fb fbase l fw 0 (.map []) Ff w) (hap : ∀ k, Fd k → ¬ Ff k) (hgd : ∀ k, Fd k → base ≤ k) (hgf : ∀ k, Ff k → base ≤ k) (hb : base ≤ w.heap.size)
    (h2 : 2 ≤ n) (hnl : n ≤ nw.length) (ht : 1 ≤ txn) (hl : ∀ x ∈ l ++ pagesOf fw, 2 ≤ x ∧ x < (n : Int)) (hll : l.length + fw.length ≤ 1000000) :
    Calls Tryz.prog 13 #[.pointer (some ⟨db, 0, none⟩), .pointer (some ⟨fb, 0, none⟩), .int .i64 n, .int .i64 txn] w fun e w' => ∃ pb bm bd bw sb sbase U, e = .returned (.tuple #[.pointer (some ⟨pb, 0, none⟩), .int .i64 0]) ∧ Pg pb base (pgNew db dbase most sy nw wr fb fbase l fw n txn bm bd bw sb sbase) U w' ∧ (∀ k, U k → Fd k ∨ Ff k ∨ w.heap.size ≤ k) ∧ Below w.heap.size w w' ∧ w.heap.size ≤ pb := by
  have hF0 : Fr (fun _ => False) w (w.alloc (.cells #[.int .i64 n] 3)).drew := ((Fr.refl (fun _ => False) w).alloc _).drew
  have hz0 : (w.alloc (.cells #[.int .i64 n] 3)).drew.heap.size = w.heap.size + 1 := by simp
  have hx0 : (w.alloc (.cells #[.int .i64 n] 3)).drew.cell? ⟨w.heap.size, 0, none⟩ = some (.int .i64 n) := by go_simp
  have hb0 : Below w.heap.size w (w.alloc (.cells #[.int .i64 n] 3)).drew := hF0.below (Nat.le_refl _) (fun _ h => h.elim)
  have hD0 := hD.keep hF0 (fun _ _ h => h)
  have hI0 := hF.keep hF0 (fun _ _ h => h)
  have HLEN : Hid (Calls Tryz.prog 43 #[.pointer (some ⟨db, 0, none⟩)] (w.alloc (.cells #[.int .i64 n] 3)).drew fun e w' => e = .returned (.int .i64 nw.length) ∧ w' = (w.alloc (.cells #[.int .i64 n] 3)).drew) := Lib.hid (by
    obtain ⟨v4, v5, cv, h, hok, hb, rfl⟩ := hD0
    obtain ⟨p, c, rfl⟩ := owns_slice h.o5
    exact dev_len db p nw.length c _ h.c5)
  have HALL := Lib.hid (fe_all hI0 hll)
  have HD := Lib.hid hD0
  have HF := Lib.hid hI0
  have HLL := Lib.hid hl
  have HAP := Lib.hid hap
  have HGD := Lib.hid hgd
  have HGF := Lib.hid hgf
  have HB0 := Lib.hid hb0
  have HX0 := Lib.hid hx0
  have HZ0 := Lib.hid hz0
  have HLT : Hid (∀ k, Fd k ∨ Ff k → k < w.heap.size) := Lib.hid (fun k hk => hk.elim (hD.lt k) (hF.lt k))
  have g1 : decide ((n : Int) < 2) = false := by rw [decide_eq_false_iff_not]; omega
  have g2 : decide ((nw.length : Int) < (n : Int)) = false := by rw [decide_eq_false_iff_not]; omega
  have g2n : decide (nw.length < n) = false := by rw [decide_eq_false_iff_not]; omega
  have g3 : decide (txn < 1) = false := by rw [decide_eq_false_iff_not]; omega
  clear hD hF hap hgd hgf hl hF0 hz0 hb0 hD0 hI0 h2 hnl ht
  go_enter Tryz.func13, Tryz.ntmps13
  go_wp2_with fail
  go_region_with (go_at_call 43; refine HLEN.out.mono ?_; rintro e w1 ⟨rfl, rfl⟩)
  all_goals
    go_wp2_with fail
    refine HALL.out.mono ?_
    rintro e w2 ⟨u, rfl, ho, hb2⟩
    obtain ⟨pu, cu, rfl⟩ := owns_slice ho
    have hln : (CL.srt (l ++ pagesOf fw)).length = l.length + fw.length := by rw [CL.srt_length, List.length_append]; simp [pagesOf]
    have hrd := RdI.of_own ho hln
    rw [HZ0.out] at hb2
    have hx2 : w2.cell? ⟨w.heap.size, 0, none⟩ = some (.int .i64 n) := (hb2.cell (p := ⟨w.heap.size, 0, none⟩) (by show w.heap.size < _; omega)).trans HX0.out
    have hmem : ∀ k, k < l.length + fw.length → 2 ≤ HL.el (CL.srt (l ++ pagesOf fw)) k ∧ HL.el (CL.srt (l ++ pagesOf fw)) k < (n : Int) := fun k hk => HLL.out _ ((CL.srt_perm _).mem_iff.1 (HL.el_mem _ k (by rw [hln]; exact hk)))
    have HCN := Lib.hid (contains_no (newV w.heap.size) pu _ cu _ w2 hrd hll (fun k hk => new_fn w.heap.size _ n w2 hx2 (by have := hmem k hk; omega) (by have := hmem k hk; omega)))
    have hz2 := hb2.size
    have HD2 := Lib.hid (HD.out.keep (Fr.of_all (S := fun _ => False) (by rw [HZ0.out]; exact hb2)) (fun _ _ h => h))
    have HF2 := Lib.hid (HF.out.below (by rw [HZ0.out]; exact hb2))
    have HB2 : Hid (Below w.heap.size w w2) := Lib.hid (HB0.out.trans (hb2.mono (by omega)))
    have HZ2 : Hid (w.heap.size + 1 ≤ w2.heap.size) := Lib.hid (by have := HZ0.out; omega)
    clear ho hb2 hln hrd hmem hz2
    go_wp2_with fail
    refine HCN.out.mono ?_
    rintro e w3 ⟨rfl, rfl⟩
    have hrow := heap_alloc_new w3 (.cells #[.pointer (some ⟨db, 0, none⟩), .pointer (some ⟨fb, 0, none⟩), .int .i64 n, .int .i64 n, .int .i64 txn, .map none, .map none, .map none, .pointer none] 106)
    have hcc : ∀ k u, (#[Value.pointer (some ⟨db, 0, none⟩), .pointer (some ⟨fb, 0, none⟩), .int .i64 n, .int .i64 n, .int .i64 txn, .map none, .map none, .map none, .pointer none])[k]? = some u → (w3.alloc (.cells #[.pointer (some ⟨db, 0, none⟩), .pointer (some ⟨fb, 0, none⟩), .int .i64 n, .int .i64 n, .int .i64 txn, .map none, .map none, .map none, .pointer none] 106)).cell? ⟨w3.heap.size, k, none⟩ = some u := fun k u hu => by
      rw [cell_of_row _ _ _ _ _ _ hrow]; exact hu
    have hff : ∀ k, k < 9 → (w3.alloc (.cells #[.pointer (some ⟨db, 0, none⟩), .pointer (some ⟨fb, 0, none⟩), .int .i64 n, .int .i64 n, .int .i64 txn, .map none, .map none, .map none, .pointer none] 106)).frozen? ⟨w3.heap.size, k, none⟩ = false := fun k _ => by
      unfold World.frozen?
      rw [hrow]
      simp
    have HCL := Lib.hid (pg_clear w3.heap.size _ _ _ _ _ (hcc 5 _ rfl) (hcc 6 _ rfl) (hcc 7 _ rfl) (hcc 8 _ rfl) hff)
    have HCC := Lib.hid hcc
    have HFF := Lib.hid hff
    clear hrow hcc hff HCN
    go_wp2_with fail
    refine HCL.out.mono ?_
    rintro e w4 ⟨rfl, bm, bd, bw, sb, sbase, Fs, hC⟩
    have hba : Below w3.heap.size w3 (w3.alloc (.cells #[.pointer (some ⟨db, 0, none⟩), .pointer (some ⟨fb, 0, none⟩), .int .i64 n, .int .i64 n, .int .i64 txn, .map none, .map none, .map none, .pointer none] 106)) := (Below.refl _ w3).alloc (Nat.le_refl _) _
    have hz2 := HZ2.out
    obtain ⟨U, hP, hU⟩ := new_fin (base := base) (HD2.out.keep (Fr.of_all (S := fun _ => False) hba) (fun _ _ h => h)) (HF2.out.below hba) HAP.out HGD.out HGF.out (by simp) (by omega) (fun h => by have := HLT.out _ (.inl h); omega) (fun h => by have := HLT.out _ (.inr h); omega) (HCC.out 0 _ rfl) (HCC.out 1 _ rfl) (HCC.out 2 _ rfl) (HCC.out 3 _ rfl) (HCC.out 4 _ rfl) HFF.out hC
    have HP := Lib.hid hP
    have HU : Hid (∀ k, U k → Fd k ∨ Ff k ∨ w.heap.size ≤ k) := Lib.hid (fun k hk => by
      rcases hU k hk with h | h | h | h
      · exact .inl h
      · exact .inr (.inl h)
      · exact .inr (.inr (by omega))
      · rw [World.size_alloc] at h
        exact .inr (.inr (by omega)))
    have HB4 : Hid (Below w.heap.size w w4) := Lib.hid ((HB2.out.trans (hba.mono (by omega))).trans (hC.fr.below (by rw [World.size_alloc]; omega) (fun k hk => by have : k = w3.heap.size := hk; omega)))
    clear hC hP hU hba HCL HCC HFF HD2 HF2 HB2
    go_wp2
    go_ret2
    exact ⟨w3.heap.size, bm, bd, bw, sb, sbase, U, rfl, HP.out, HU.out, HB4.out, by omega⟩
end
end Go.Proofs.YtlocadmiomglaaaGreatDoor
