/- dev: the calls of a device as a whole. -/
import Derived.Test.YtpoiopjggmhnjaaDoorDv
namespace Go.Proofs.YtpoiopjggmhnjaaDoor
open Go.RowKit Go.Conc

theorem page0_size : page0.size = 256 := by kernel_rfl

theorem repeat_page (w : World) : Calls Tryd.prog 36 #[.string ⟨#[0]⟩, .int .i64 256] w fun e w' => e = .returned (.string page0) ∧ Below w.heap.size w w' :=
  Tryd.strings_Repeat ⟨#[0]⟩ 256 w (by omega) (by simp [ByteArray.size])

section
variable {db base : Nat} {m lf : Int} {on fu : Bool} {sy nw : List ByteArray} {ws : List Wr} {F : Nat → Prop} {w w' : World}

theorem dv_new (m : Int) (w : World) (h1 : 1 ≤ m) (h2 : m ≤ 3000) :
    Calls Tryd.prog 13 #[.int .i64 m] w fun e w' => e = .returned (.tuple #[.pointer (some ⟨w.heap.size, 0, none⟩), .int .i64 0]) ∧ Dv w.heap.size w.heap.size m true false 0 [] [] [] (fun k => k = w.heap.size) w' ∧ Below w.heap.size w w' :=
  (dev_new m w h1 h2).mono fun _ _ ⟨h1, h2⟩ => by subst h2; exact ⟨h1, dv_made m w, (Below.refl _ w).alloc (Nat.le_refl _) _⟩

theorem DevOK.grow (h : DevOK sy nw ws) (k : Nat) (hk : sy.length + k ≤ 3000) : DevOK (sy ++ List.replicate k page0) (nw ++ List.replicate k page0) ws := by
  refine ⟨by simp [h.len], by simp; omega, fun x hx => ?_, fun x hx => ?_, fun x hx => ?_, h.wl⟩
  · rcases List.mem_append.1 hx with hx | hx
    · exact h.s x hx
    · rw [(List.mem_replicate.1 hx).2]; exact page0_size
  · rcases List.mem_append.1 hx with hx | hx
    · exact h.n x hx
    · rw [(List.mem_replicate.1 hx).2]; exact page0_size
  · obtain ⟨h1, p, h2, h3⟩ := h.w x hx
    exact ⟨h1, p, h2, by simp; omega⟩

theorem dv_grow (n : Nat) (h : Dv db base m true false lf sy nw ws F w) (hn : nw.length ≤ n) (hm : (n : Int) ≤ m) (hm2 : m ≤ 3000) :
    Calls Tryd.prog 15 #[.pointer (some ⟨db, 0, none⟩), .int .i64 n] w fun e w' => e = .returned (.int .i64 0) ∧ ∃ F', Dv db base m true false lf (sy ++ List.replicate (n - nw.length) page0) (nw ++ List.replicate (n - nw.length) page0) ws F' w' ∧ Step F F' w w' := by
  obtain ⟨v4, v5, cv, hI, hok, hb, rfl⟩ := h
  refine (dev_grow page0 repeat_page db base n m lf sy nw ws v4 v5 cv w hI hb hn hok.len.symm hm hm2).mono ?_
  rintro e w' ⟨rfl, u4, u5, hI', hF, h4, h5⟩
  refine ⟨rfl, _, ⟨u4, u5, cv, hI', hok.grow _ (by have := hok.len; omega), Nat.le_trans hb hF.size, rfl⟩, hF, ?_⟩
  rintro k (hk | hk | hk | hk)
  · exact .inl (.inl hk)
  · exact (h4 k hk).imp (fun h => .inr (.inl h)) id
  · exact (h5 k hk).imp (fun h => .inr (.inr (.inl h))) id
  · exact .inl (.inr (.inr (.inr hk)))

set_option maxRecDepth 100000 in
theorem dv_grow_bad (n : Int) (h : Dv db base m true false lf sy nw ws F w) (hn : n < (nw.length : Int) ∨ m < n) :
    Calls Tryd.prog 15 #[.pointer (some ⟨db, 0, none⟩), .int .i64 n] w fun e w' => e = .returned (.int .i64 (if n < (nw.length : Int) then 1 else 10)) ∧ w' = w := by
  obtain ⟨v4, v5, cv, hI, hok, hb, rfl⟩ := h
  have hc0 := hI.c0
  have HOFF := Lib.hid (dev_off db true w hI.c1)
  have HOP := Lib.hid (dev_op_plain db w hI.c2)
  obtain ⟨p5, d5, rfl⟩ := owns_slice hI.o5
  have hc5 := hI.c5
  clear hI hok
  by_cases h1 : n < (nw.length : Int)
  · clear hn
    rw [if_pos h1]
    go_enter Tryd.func15, Tryd.ntmps15
    go_wp2_with fail
    refine HOFF.out.mono ?_
    rintro e w1 ⟨rfl, rfl⟩
    go_wp2_with fail
    refine HOP.out.mono ?_
    rintro e w1 ⟨rfl, rfl⟩
    go_wp2
    go_ret
    exact ⟨rfl, rfl⟩
  · have h2 : m < n := hn.resolve_left h1
    clear hn
    rw [if_neg h1]
    go_enter Tryd.func15, Tryd.ntmps15
    go_wp2_with fail
    refine HOFF.out.mono ?_
    rintro e w1 ⟨rfl, rfl⟩
    go_wp2_with fail
    refine HOP.out.mono ?_
    rintro e w1 ⟨rfl, rfl⟩
    go_wp2
    go_ret
    exact ⟨rfl, rfl⟩

theorem dv_sync (h : Dv db base m true false lf sy nw ws F w) :
    Calls Tryd.prog 22 #[.pointer (some ⟨db, 0, none⟩)] w fun e w' => e = .returned (.int .i64 0) ∧ ∃ F', Dv db base m true false lf nw nw [] F' w' ∧ Step F F' w w' := by
  obtain ⟨v4, v5, cv, hI, hok, hb, rfl⟩ := h
  refine (dev_sync db base m lf sy nw ws v4 v5 cv w hI hb (by have := hok.len; have := hok.few; omega) hok.wl).mono ?_
  rintro e w' ⟨rfl, u, hI', hF, h4⟩
  refine ⟨rfl, _, ⟨u, v5, cv, hI', ⟨rfl, by have := hok.len; have := hok.few; omega, hok.n, hok.n, by simp, by simp⟩, Nat.le_trans hb hF.size, rfl⟩, hF, ?_⟩
  rintro k (hk | hk | hk | hk)
  · exact .inl (.inl hk)
  · exact .inr (h4 k hk)
  · exact .inl (.inr (.inr (.inl hk)))
  · exact .inl (.inr (.inr (.inr hk)))

set_option maxRecDepth 100000 in
theorem dv_sync_off (h : Dv db base m false fu lf sy nw ws F w) :
    Calls Tryd.prog 22 #[.pointer (some ⟨db, 0, none⟩)] w fun e w' => e = .returned (.int .i64 14) ∧ w' = w := by
  obtain ⟨v4, v5, cv, hI, hok, hb, rfl⟩ := h
  have HOFF := Lib.hid (dev_off db false w hI.c1)
  clear hI hok
  go_enter Tryd.func22, Tryd.ntmps22
  go_wp2_with fail
  refine HOFF.out.mono ?_
  rintro e w1 ⟨rfl, rfl⟩
  go_wp2
  go_ret
  exact ⟨rfl, rfl⟩

theorem DevOK.crash (h : DevOK sy nw ws) (ks : List Int) : DevOK (crashL sy ws ks ws.length) (crashL sy ws ks ws.length) [] :=
  ⟨rfl, by rw [crashL_length]; exact h.few, crashL_size ks h _ (Nat.le_refl _), crashL_size ks h _ (Nat.le_refl _), by simp, by simp⟩

theorem dv_crash (kp : Option Addr) (kn kc : Nat) (ks : List Int) (h : Dv db base m on fu lf sy nw ws F w) (hk : RdI w w.heap.size kp kn ks) (hkd : 0 < kn → ∀ a, kp = some a → ¬ F a.block) (hkn : kn ≤ 100000) :
    Calls Tryd.prog 23 #[.pointer (some ⟨db, 0, none⟩), .slice kp kn kc] w fun e w' => e = .returned (.tuple #[]) ∧ ∃ F', Dv db base m false false lf (crashL sy ws ks ws.length) (crashL sy ws ks ws.length) [] F' w' ∧ Step F F' w w' := by
  obtain ⟨v4, v5, cv, hI, hok, hb, rfl⟩ := h
  refine (dev_crash db base m lf on fu sy nw ws v4 v5 cv kp kn kc ks w hI hok hb hk hkd hkn).mono ?_
  rintro e w' ⟨rfl, u, hI', hF, h4⟩
  refine ⟨rfl, _, ⟨v4, u, cv, hI', hok.crash ks, Nat.le_trans hb hF.size, rfl⟩, hF, ?_⟩
  rintro k (hk | hk | hk | hk)
  · exact .inl (.inl hk)
  · exact .inl (.inr (.inl hk))
  · exact .inr (h4 k hk)
  · exact .inl (.inr (.inr (.inr hk)))

theorem dv_restore (h : Dv db base m on fu lf sy nw ws F w) (hm : 0 < m) :
    Calls Tryd.prog 24 #[.pointer (some ⟨db, 0, none⟩)] w fun e w' => e = .returned (.tuple #[]) ∧ Dv db base m true fu lf sy nw ws F w' ∧ Fr (fun k => k = db) w w' := by
  obtain ⟨v4, v5, cv, h, hok, hb, rfl⟩ := h
  refine (dev_restore db m on w h.c0 h.c1 (h.fz 1 (by omega)) hm).mono ?_
  rintro e w' ⟨rfl, rfl⟩
  have hF : Fr (fun k => k = db) w (w.setCell ⟨db, 1, none⟩ (.bool true)) := (Fr.refl (fun i => i = db) w).setCell (p := ⟨db, 1, none⟩) (fun _ => rfl) _
  have co : ∀ o, o ≠ 1 → (w.setCell ⟨db, 1, none⟩ (.bool true)).cell? ⟨db, o, none⟩ = w.cell? ⟨db, o, none⟩ := fun o ho => World.cell?_setCell_other _ _ _ _ (by intro e9; injection e9 with _ e9 _; omega)
  refine ⟨rfl, ⟨v4, v5, cv, ⟨(co 0 (by omega)).trans h.c0, cell_set_same w _ _ _ h.c1, (co 2 (by omega)).trans h.c2, (co 3 (by omega)).trans h.c3, (co 4 (by omega)).trans h.c4, (co 5 (by omega)).trans h.c5, (co 6 (by omega)).trans h.c6, fun o ho => (frozen_set _ _ _ _).trans (h.fz o ho), hF.owns h.o4 (fun g hg e => h.n4 (by rw [hg, e])), hF.owns h.o5 (fun g hg e => h.n5 (by rw [hg, e])), h.n4, h.n5, h.n45, h.ch.keep hF (fun c e9 h9 => ?_), h.bs, h.bc⟩, hok, Nat.le_trans hb hF.size, rfl⟩, hF⟩
  rcases h.ch with ⟨e8, _⟩ | ⟨c8, cap8, s8, r8, e8, hc8, _⟩
  · rw [e8] at e9; cases e9
  · rw [e8] at e9; injection e9 with e9; injection e9 with e9; subst e9; exact not_chan h.c0 hc8 h9.symm


theorem dv_read (k : Nat) (h : Dv db base m true fu lf sy nw ws F w) (hk : k < nw.length) :
    Calls Tryd.prog 40 #[.pointer (some ⟨db, 0, none⟩), .int .i64 k] w fun e w' => e = .returned (.tuple #[.string (nw.getD k default), .int .i64 0]) ∧ w' = w := by
  obtain ⟨v4, v5, cv, h, hok, hb, rfl⟩ := h
  obtain ⟨g, cap, hv, hg1, hg2, hg3⟩ := owns_len h.o5 (by omega)
  subst hv
  refine dev_read db g 0 nw.length cap k _ w h.c1 h.c5 hk ?_
  have e := h.o5.cells (g := g) rfl k (.string (nw.getD k default)) (by
    have r0 := rowOf_at scells scells_length nw k 0 hk (by omega)
    rw [Nat.mul_one, Nat.add_zero] at r0
    exact r0)
  rw [add_at0] at e
  rw [Nat.zero_add]
  exact e

theorem dv_read_out (k : Int) (h : Dv db base m true fu lf sy nw ws F w) (hk : k < 0 ∨ (nw.length : Int) ≤ k) :
    Calls Tryd.prog 40 #[.pointer (some ⟨db, 0, none⟩), .int .i64 k] w fun e w' => e = .returned (.tuple #[.string ByteArray.empty, .int .i64 3]) ∧ w' = w := by
  obtain ⟨v4, v5, cv, h, hok, hb, rfl⟩ := h
  obtain ⟨p, cap, rfl⟩ := owns_slice h.o5
  exact dev_read_out db p nw.length cap k w h.c1 h.c5 hk




end

/-- What Write leaves. -/
def DvWrote (db base : Nat) (m : Int) (fu fl : Bool) (ll : Int) (sy nw : List ByteArray) (ws : List Wr) (F : Nat → Prop) (k : Nat) (s : ByteArray) (w : World) (e : Ending) (w' : World) : Prop :=
  e = .returned (.int .i64 (if fl then 14 else 0)) ∧ ∃ F', Dv db base m (!fl) (fu && !fl) ll sy (nw.set k s) (ws ++ [((k : Int), s)]) F' w' ∧ Step F F' w w'

set_option maxHeartbeats 2000000 in
set_option maxRecDepth 100000 in
theorem dv_write {db base : Nat} {m lf : Int} {fu : Bool} {sy nw : List ByteArray} {ws : List Wr} {F : Nat → Prop} {w : World} (k : Nat) (s : ByteArray) (h : Dv db base m true fu lf sy nw ws F w) (hk : k < nw.length) (hs : s.size = 256) (hw : ws.length < 1000) (hlf : lf ≤ 1000000) :
    Calls Tryd.prog 17 #[.pointer (some ⟨db, 0, none⟩), .int .i64 k, .string s] w (DvWrote db base m fu (opFl fu lf) (opLf fu lf) sy nw ws F k s w) := by
  obtain ⟨v4, v5, cv, h, hok, hb, rfl⟩ := h
  have HOFF := Lib.hid (dev_off db true w h.c1)
  have HOP := Lib.hid (dv_op v4 v5 cv h hlf)
  have HCL := Lib.hid (fun w => clone_str s w (by omega))
  obtain ⟨g, cap, hv, hg1, hg2, hg3⟩ := owns_len h.o5 (by omega)
  subst hv
  have HH := Lib.hid h
  have hlen : ((s.size : Nat) : Int) = 256 := by omega
  have hne : ((s.size : Int) != 256) = false := by rw [hlen]; rfl
  have HS := Lib.hid hs
  have HOK := Lib.hid hok
  clear h hs hlen hok
  have hk0 : ¬ ((k : Int) < 0) := by omega
  generalize hfl : opFl fu lf = fl at *
  generalize hll : opLf fu lf = ll at *
  clear hfl hll
  go_enter Tryd.func17, Tryd.ntmps17
  go_wp2_with fail
  refine HOFF.out.mono ?_
  rintro e w1 ⟨rfl, rfl⟩
  go_wp2_with fail
  refine HOP.out.mono ?_
  rintro e w0 ⟨rfl, hI0, hF0⟩
  have hc5 := hI0.c5
  have HI0 := Lib.hid hI0
  have HF0 := Lib.hid hF0
  clear hI0 hF0 HOP
  go_wp2_with fail
  refine (HCL.out _).mono ?_
  rintro e w2 ⟨rfl, hb2⟩
  have hI2 := HI0.out.keep (Fr.of_all (S := fun _ => False) hb2) (fun _ _ h => h)
  have hc52 := hI2.c5
  have hst := hI2.set5 k hk s
  have hcell : ∃ u, w2.cell? ⟨g, k, none⟩ = some u := ⟨_, by
    have e := hI2.o5.cells (g := g) rfl k (.string (nw.getD k default)) (by
      have r0 := rowOf_at scells scells_length nw k 0 hk (by omega)
      rw [Nat.mul_one, Nat.add_zero] at r0
      exact r0)
    rw [add_at0] at e
    exact e⟩
  obtain ⟨u, hcell⟩ := hcell
  have hfz := hI2.o5.frozenAt k
  have HPU := Lib.hid (put_wait db cv (k : Int) s ws (w2.setCell ⟨g, k, none⟩ (.string s)) hst.1.c6 (hst.1.fz 6 (by omega)) hst.1.ch (by omega))
  have HST := Lib.hid hst
  have HB2 := Lib.hid hb2
  have hb2s := hb2.size
  have hs0 := HF0.out.size
  clear hst hb2 hI2 HOFF HCL
  go_wp2_with fail
  refine HPU.out.mono ?_
  intro e w3 hp
  have he : e = .returned (.tuple #[]) := hp.1
  subst he
  have hbs : base ≤ (w2.setCell ⟨g, k, none⟩ (.string s)).heap.size := Nat.le_trans (Nat.le_trans (Nat.le_trans hb hs0) hb2s) HST.out.2.size
  obtain ⟨c, hI3, hfrom, hF3⟩ := HST.out.1.waits hbs hp
  have HI3 := Lib.hid hI3
  have HF3 := Lib.hid hF3
  have HFR := Lib.hid hfrom
  have HBS := Lib.hid hbs
  clear hI3 hF3 hfrom hp HPU hbs
  have HFIN : Hid (∃ F', Dv db base m (!fl) (fu && !fl) ll sy (nw.set k s) (ws ++ [((k : Int), s)]) F' w3 ∧ Step (devF db v4 (.slice (some ⟨g, 0, none⟩) nw.length cap) cv) F' w1 w3) := Lib.hid (by
    refine ⟨_, ⟨_, _, _, HI3.out, ⟨by rw [List.length_set]; exact HOK.out.len, HOK.out.few, HOK.out.s, fun x hx => ?_, fun x hx => ?_, by simp; omega⟩, Nat.le_trans HBS.out HF3.out.size, rfl⟩, ?_, ?_⟩
    · rcases List.mem_or_eq_of_mem_set hx with hx | rfl
      · exact HOK.out.n x hx
      · exact HS.out
    · rcases List.mem_append.1 hx with hx | hx
      · exact HOK.out.w x hx
      · obtain rfl : x = ((k : Int), s) := by simpa using hx
        exact ⟨HS.out, k, rfl, by have := HOK.out.len; omega⟩
    · have hA : Fr (devF db v4 (.slice (some ⟨g, 0, none⟩) nw.length cap) cv) w1 w0 := HF0.out.mono (fun i _ hi => .inl hi)
      have hB := Fr.trans hA (Fr.of_all (S := fun _ => False) HB2.out) (fun i hi _ => hi.elim)
      have hC := Fr.trans hB HST.out.2 (fun i hi _ => .inr (.inr (.inl (by rw [hi]; rfl))))
      exact Fr.trans hC HF3.out (fun i hi _ => hi.elim (fun e => .inl e) (fun e => .inr (.inr (.inr e))))
    · rintro i (hi | hi | hi | hi)
      · exact .inl (.inl hi)
      · exact .inl (.inr (.inl hi))
      · exact .inl (.inr (.inr (.inl hi)))
      · rcases HFR.out with e9 | e9
        · exact .inl (.inr (.inr (.inr (e9.trans hi))))
        · injection hi with hi
          injection hi with hi
          subst hi
          exact .inr (Nat.le_trans (Nat.le_trans hs0 (Nat.le_trans hb2s HST.out.2.size)) e9))
  cases fl with
  | true =>
    go_wp2
    go_ret
    exact ⟨rfl, HFIN.out⟩
  | false =>
    go_wp2
    go_ret
    exact ⟨rfl, HFIN.out⟩
end Go.Proofs.YtpoiopjggmhnjaaDoor
