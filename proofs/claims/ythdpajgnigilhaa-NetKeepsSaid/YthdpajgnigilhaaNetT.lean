/- net's Net as a whole: its calls, each with what becomes of it. -/
import Derived.Test.YthdpajgnigilhaaNetG
import Derived.Test.YthdpajgnigilhaaNetP
namespace Go.Proofs.Ythdpajgnigilhaa
open Go.RowKit Go.Conc

set_option maxHeartbeats 1000000 in
set_option maxRecDepth 100000 in
theorem net_pull_find (nb base : Nat) (v : Value) (l : List Nd) (seq : Int) (k : Nat) (cu ch : Value) (w : World) (h : NetI nb base v l seq cu ch w) (hk : k < l.length) :
    Calls Try.prog 25 #[.pointer (some ⟨nb, 0, none⟩), .int .i64 k] w fun e w' => ∃ (i : Nat) (ts : List Nd), e = .returned (.tuple #[pkv (HL.el l i).fr (HL.el l i).to (HL.el l i).da, .bool true]) ∧ i < l.length ∧ ts.Perm l ∧ SortedD ts ∧ HL.el l i = HL.el ts k ∧
      ∃ v' l', NetI nb base v' l' seq cu ch w' ∧ (HL.el l i :: l').Perm l ∧ Fr (netF nb v) w w' ∧ v'.ownBlock = v.ownBlock := by
  have hlt := cell_lt h.c1
  have hob : ∀ g, v.ownBlock = some g → g < w.heap.size := fun g hg => (h.h.2.2.1.lt g hg).2
  have HI0 := Lib.hid h
  have HP0 := Lib.hid (fun (i : Nat) (hn : i < l.length) W (hI : NetI nb base v l seq cu ch W) => heap_remove_nets nb 0 base v l i W hI.h hI.hp hn)
  have HFD := Lib.hid (fun W (hI : NetI nb base v l seq cu ch W) => net_find nb base v l seq k cu ch W hI hk)
  have hta := ta_wt
  have HOB := Lib.hid hob
  clear hob h
  go_enter Try.func25, Try.ntmps25
  have n0 : (w.alloc (.cells #[.int .i64 0, .int .i64 0, .string ⟨#[]⟩] 34)).cell? ⟨w.heap.size, 0, none⟩ = some (.int .i64 0) := by go_simp
  have n1 : (w.alloc (.cells #[.int .i64 0, .int .i64 0, .string ⟨#[]⟩] 34)).cell? ⟨w.heap.size, 1, none⟩ = some (.int .i64 0) := by clear n0; go_simp
  have n2 : (w.alloc (.cells #[.int .i64 0, .int .i64 0, .string ⟨#[]⟩] 34)).cell? ⟨w.heap.size, 2, none⟩ = some (.string ⟨#[]⟩) := by clear n0 n1; go_simp
  have nf : ∀ k, (w.alloc (.cells #[.int .i64 0, .int .i64 0, .string ⟨#[]⟩] 34)).frozen? ⟨w.heap.size, k, none⟩ = false := fun k => by clear n0 n1 n2; go_simp
  have NN := Lib.hid (And.intro n0 (And.intro n1 (And.intro n2 nf)))
  clear n0 n1 n2 nf
  go_wp2_with fail
  refine (HFD.out _ (HI0.out.keep ((Fr.refl (fun _ => False) w).alloc _) (fun _ _ h => h))).mono ?_
  rintro e w1 ⟨i, ts, rfl, hi, hts, hsd, hel, hb⟩
  have hi0 : ¬ (i : Int) < 0 := by omega
  have HP := Lib.hid (HP0.out i hi)
  have HTS := Lib.hid (And.intro hts (And.intro hsd hel))
  clear hts hsd hel HP0
  obtain ⟨x, hxe⟩ : ∃ x, HL.el l i = x := ⟨_, rfl⟩
  rw [hxe] at HP
  have HXE := Lib.hid hxe
  clear hxe
  have HFA : Hid (Fr (fun _ => False) w w1) := Lib.hid (Fr.trans ((Fr.refl (fun _ => False) w).alloc _) (Fr.of_all (S := fun _ => False) hb) (fun _ h _ => h))
  have hz : w.heap.size < w1.heap.size := by have := hb.size; simp at this; omega
  have N := Lib.hid (And.intro ((hb.cell (p := ⟨w.heap.size, 0, none⟩) (by simp)).trans NN.out.1) (And.intro ((hb.cell (p := ⟨w.heap.size, 1, none⟩) (by simp)).trans NN.out.2.1) (And.intro ((hb.cell (p := ⟨w.heap.size, 2, none⟩) (by simp)).trans NN.out.2.2.1) (fun k => (hb.frozen (p := ⟨w.heap.size, k, none⟩) (by simp)).trans (NN.out.2.2.2 k)))))
  clear hb NN
  go_wp2_with fail
  refine (HP.out _ (HI0.out.keep HFA.out (fun _ _ h => h))).mono ?_
  rintro e w2 ⟨u, rfl, v', l', rfl, hI, hh, hp, hfr, hv', hoth⟩
  have hs1 : w.heap.size ≠ nb := by omega
  have hs2 : v.ownBlock ≠ some w.heap.size := fun e => by have := HOB.out _ e; omega
  have hnot : ¬ (w.heap.size = nb ∨ v.ownBlock = some w.heap.size) := fun h => h.elim hs1 hs2
  have hfar := fun k => hfr.cell (p := ⟨w.heap.size, k, none⟩) hz hnot
  have hfarf := fun k => hfr.frozen (p := ⟨w.heap.size, k, none⟩) hz hnot
  have c0 := (hfar 0).trans N.out.1
  have c1 := (hfar 1).trans N.out.2.1
  have c2 := (hfar 2).trans N.out.2.2.1
  have f0 := (hfarf 0).trans (N.out.2.2.2 _)
  have f1 := (hfarf 1).trans (N.out.2.2.2 _)
  have f2 := (hfarf 2).trans (N.out.2.2.2 _)
  have hsz : w.heap.size < w2.heap.size := by have := hfr.size; omega
  have HFR := Lib.hid (Fr.trans (HFA.out.mono (fun _ _ h => h.elim)) hfr (fun i hi _ => hi))
  have HK := Lib.hid (HI0.out.keep HFA.out (fun _ _ h => h))
  have HSEQ : Hid (NetI nb base v' l' seq cu ch w2) := Lib.hid ⟨hI, (hoth 1 (by omega)).1.trans HK.out.c1, (hoth 1 (by omega)).2.trans HK.out.f1, (hoth 2 (by omega)).1.trans HK.out.c2, (hoth 2 (by omega)).2.trans HK.out.f2, (hoth 3 (by omega)).1.trans HK.out.c3, (hoth 3 (by omega)).2.trans HK.out.f3, hh⟩
  have HV' := Lib.hid hv'
  have hx3 := cells3n (v0 := .int .i64 x.fr) (v1 := .int .i64 x.to) (v2 := .string x.da) c0 c1 c2
  obtain ⟨X, hX⟩ : ∃ X, ((w2.setCell ⟨w.heap.size, 0, none⟩ (.int .i64 x.fr)).setCell ⟨w.heap.size, 1, none⟩ (.int .i64 x.to)).setCell ⟨w.heap.size, 2, none⟩ (.string x.da) = X := ⟨_, rfl⟩
  rw [hX] at hx3
  obtain ⟨x0, x1, x2⟩ := hx3
  have HXF : Hid (Fr (fun k => k = w.heap.size) w2 X) := Lib.hid (by rw [← hX]; exact (((Fr.refl (fun k => k = w.heap.size) w2).setCell (p := ⟨w.heap.size, 0, none⟩) (fun _ => rfl) _).setCell (p := ⟨w.heap.size, 1, none⟩) (fun _ => rfl) _).setCell (p := ⟨w.heap.size, 2, none⟩) (fun _ => rfl) _)
  clear hfar hfarf hnot hfr hI hoth hv' HK N
  have hfd := fld_due x
  go_wp2
  refine bodyPost_ret (v := .tuple #[pkv x.fr x.to x.da, .bool true]) (by simp [results, Try.results25, go_sem, pkv, x0, x1, x2]) rfl ⟨i, ts, by rw [HXE.out], hi, HTS.out.1, HTS.out.2.1, HTS.out.2.2, v', l', ?_, by rw [HXE.out]; exact hp, ?_, HV'.out⟩
  · refine HSEQ.out.keep HXF.out (fun k hk e => ?_)
    subst e
    rcases hk with hk | hk
    · exact hs1 hk
    · rw [HV'.out] at hk
      exact hs2 hk
  · exact Fr.trans HFR.out HXF.out (fun i hi hlt => by omega)

theorem look_nil (a b : Int) (W : World) : look (.map none) a b false W := by unfold look; kernel_rfl

def ChOk (ch : Value) (w : World) : Prop := ch = .chan none ∨ ∃ c s r, ch = .chan (some c) ∧ w.heap[c]? = some (pchan 1 s r #[])
theorem ChOk.keep {ch : Value} {w w' : World} {T : Nat → Prop} (h : ChOk ch w) (hF : Fr T w w') (hT : ∀ c, ch = .chan (some c) → ¬ T c) : ChOk ch w' := by
  rcases h with h | ⟨c, s, r, h1, h2⟩
  · exact .inl h
  · exact .inr ⟨c, s, r, h1, (hF.block c (Array.getElem?_eq_some_iff.1 h2).1 (hT c h1)).trans h2⟩

/-- A net: it has the packets S (in whatever order); F: its blocks. -/
def Nt (base nb : Nat) (S : List Nd) (seq : Int) (cu : Value) (m : Option Nat) (ob : Obj) (F : Nat → Prop) (w : World) : Prop :=
  ∃ v ch l, NetI nb base v l seq cu ch w ∧ l.Perm S ∧ ChOk ch w ∧ CutW m ob w ∧ (∀ b, m = some b → ¬ F b) ∧ (∀ k, F k → base ≤ k ∧ k < w.heap.size) ∧ base ≤ w.heap.size ∧ F = sendS nb v ch

/-- Only the blocks of F, and new ones, were written; those of F' are such. -/
def Step (F F' : Nat → Prop) (w w' : World) : Prop := Fr F w w' ∧ ∀ k, F' k → F k ∨ w.heap.size ≤ k

theorem Step.refl (F : Nat → Prop) (w : World) : Step F F w w := ⟨Fr.refl _ _, fun _ h => .inl h⟩
theorem Step.trans {F F1 F2 : Nat → Prop} {w w1 w2 : World} (h : Step F F1 w w1) (k : Step F1 F2 w1 w2) : Step F F2 w w2 :=
  ⟨Fr.trans h.1 k.1 (fun i hi hlt => (h.2 i hi).resolve_right (by omega)), fun i hi => by
    rcases k.2 i hi with h1 | h1
    · exact h.2 i h1
    · exact .inr (Nat.le_trans h.1.size h1)⟩

section
variable {base nb : Nat} {S S' : List Nd} {seq seq' : Int} {cu : Value} {m : Option Nat} {ob : Obj} {F : Nat → Prop} {w w' : World}

theorem Nt.keep (h : Nt base nb S seq cu m ob F w) {T : Nat → Prop} (hF : Fr T w w') (hT : ∀ k, F k → ¬ T k) (hm : ∀ b, m = some b → ¬ T b) : Nt base nb S seq cu m ob F w' := by
  obtain ⟨v, ch, l, hI, hp, hch, hcw, hmF, hge, hb, rfl⟩ := h
  exact ⟨v, ch, l, hI.keep hF (fun k hk => hT k (.inl hk)), hp, hch.keep hF (fun c hc => hT c (.inr hc)), hcw.keep hF hm, hmF, fun k hk => ⟨(hge k hk).1, Nat.lt_of_lt_of_le (hge k hk).2 hF.size⟩, Nat.le_trans hb hF.size, rfl⟩
theorem Nt.ge (h : Nt base nb S seq cu m ob F w) : ∀ k, F k → base ≤ k := by
  obtain ⟨v, ch, l, hI, hp, hch, hcw, hmF, hge, hb, rfl⟩ := h
  exact fun k hk => (hge k hk).1
theorem Nt.lt (h : Nt base nb S seq cu m ob F w) : ∀ k, F k → k < w.heap.size := by
  obtain ⟨v, ch, l, hI, hp, hch, hcw, hmF, hge, hb, rfl⟩ := h
  exact fun k hk => (hge k hk).2
theorem Nt.bsz (h : Nt base nb S seq cu m ob F w) : base ≤ w.heap.size := by
  obtain ⟨v, ch, l, hI, hp, hch, hcw, hmF, hge, hb, rfl⟩ := h
  exact hb
theorem Nt.perm (h : Nt base nb S seq cu m ob F w) (hp : S.Perm S') : Nt base nb S' seq cu m ob F w := by
  obtain ⟨v, ch, l, hI, hp', hch, hcw, hmF, hge, hb, rfl⟩ := h
  exact ⟨v, ch, l, hI, hp'.trans hp, hch, hcw, hmF, hge, hb, rfl⟩
/-- What is new lies apart. -/
theorem Nt.below (h : Nt base nb S seq cu m ob F w) {w2 : World} {B : Nat} (hB : B ≤ base) (hb : Below B w2 w) (hF : Fr F w w') : Below B w2 w' :=
  hb.trans (hF.below (Nat.le_trans hB h.bsz) (fun k hk => Nat.le_trans hB (h.ge k hk)))

theorem nt_step {v v' ch : Value} {l l' : List Nd} (hI : NetI nb base v l seq cu ch w) (hch : ChOk ch w) (hcw : CutW m ob w) (hmF : ∀ b, m = some b → ¬ sendS nb v ch b) (hge : ∀ k, sendS nb v ch k → base ≤ k ∧ k < w.heap.size) (hb : base ≤ w.heap.size)
    (hI' : NetI nb base v' l' seq' cu ch w') (hp : l'.Perm S') (hF : Fr (netF nb v) w w') (hl : ∀ g, v'.ownBlock = some g → Lies v g w.heap.size) : ∃ F', Nt base nb S' seq' cu m ob F' w' ∧ Step (sendS nb v ch) F' w w' := by
  have hFF : Fr (sendS nb v ch) w w' := hF.mono (fun _ _ h => .inl h)
  have hst : ∀ k, sendS nb v' ch k → sendS nb v ch k ∨ w.heap.size ≤ k := by
    rintro k ((hk | hk) | hk)
    · exact .inl (.inl (.inl hk))
    · rcases hl k hk with h | h
      · exact .inl (.inl (.inr h))
      · exact .inr h
    · exact .inl (.inr hk)
  have hcw' := hcw.keep hFF hmF
  have hchk : ∀ c, ch = .chan (some c) → ¬ netF nb v c := fun c hc => by
    rcases hch with h | ⟨c', s, r, h1, h2⟩
    · rw [h] at hc; cases hc
    · rw [h1] at hc
      have e : c' = c := by injection hc with hc; injection hc
      rw [← e]
      exact hI.not_chan h2
  have hch' := hch.keep hF hchk
  refine ⟨sendS nb v' ch, ⟨v', ch, l', hI', hp, hch', hcw', ?_, ?_, Nat.le_trans hb hF.size, rfl⟩, hFF, hst⟩
  · intro b hb' hk
    have hlt := (Array.getElem?_eq_some_iff.1 (hcw b hb')).1
    rcases hst b hk with h | h
    · exact hmF b hb' h
    · omega
  · rintro k hk
    refine ⟨?_, ?_⟩
    · rcases hst k hk with h | h
      · exact (hge k h).1
      · omega
    · rcases hk with (hk | hk) | hk
      · rw [hk]; exact cell_lt hI'.c1
      · exact (hI'.h.2.2.1.lt k hk).2
      · rcases hch' with h | ⟨c', s, r, h1, h2⟩
        · rw [h] at hk; cases hk
        · rw [h1] at hk
          have e : c' = k := by injection hk with hk; injection hk
          rw [← e]
          exact (Array.getElem?_eq_some_iff.1 h2).1
end

theorem nt_new (w : World) :
    Calls Try.prog 9 #[] w fun e w' => e = .returned (.pointer (some ⟨w.heap.size, 0, none⟩)) ∧ Nt w.heap.size w.heap.size [] 0 (.map none) none (.deferred none) (fun k => k = w.heap.size) w' ∧ Below w.heap.size w w' := by
  refine (net_new w).mono ?_
  rintro e w' ⟨rfl, hI, hb⟩
  refine ⟨rfl, ⟨.slice none 0 0, .chan none, [], hI, by simp, .inl rfl, (fun _ h => (by cases h)), (fun _ h => (by cases h)), (fun k hk => ⟨(by have : k = w.heap.size := hk; omega), (by have : k = w.heap.size := hk; rw [this]; exact cell_lt hI.c1)⟩), hb.size, ?_⟩, hb⟩
  funext k
  simp [sendS, netF, Value.ownBlock]

section
variable {base nb : Nat} {S : List Nd} {seq : Int} {cu : Value} {m : Option Nat} {ob : Obj} {F : Nat → Prop} {w : World}

theorem nt_len (h : Nt base nb S seq cu m ob F w) : Calls Try.prog 11 #[.pointer (some ⟨nb, 0, none⟩)] w fun e w' => e = .returned (.int .i64 S.length) ∧ w = w' := by
  obtain ⟨v, ch, l, hI, hp, hch, hcw, hmF, hge, hb, rfl⟩ := h
  rw [← hp.length_eq]
  exact net_len nb base v l seq cu ch w hI

theorem nt_send (at' : Int) (cut : Int → Int → Bool) (ps : List Pk) (p : Option Addr) (n cap : Nat) (h : Nt base nb S seq cu m ob F w)
    (hlk : Hid (∀ k, k < n → ∀ W, CutW m ob W → look cu (HL.el ps k).fr (HL.el ps k).to (cut (HL.el ps k).fr (HL.el ps k).to) W))
    (hR : RdG pcells w w.heap.size p n ps) (hRS : ∀ b o, p = some ⟨b, o, none⟩ → ¬ F b) (hda : Hid (∀ k, k < n → (HL.el ps k).da.size ≤ 1000000)) (hn : n ≤ 100000) (hs0 : 0 ≤ seq) (hs : seq ≤ 500000) :
    Calls Try.prog 10 #[.pointer (some ⟨nb, 0, none⟩), .int .i64 at', .slice p n cap] w fun e w' => e = .returned (.int .i64 (accept cut at' S.length seq ps).length) ∧
      ∃ F', Nt base nb (S ++ accept cut at' S.length seq ps) (seq + (accept cut at' S.length seq ps).length) cu m ob F' w' ∧ Step F F' w w' := by
  obtain ⟨v, ch, l, hI, hp, hch, hcw, hmF, hge, hb, rfl⟩ := h
  rw [← hp.length_eq]
  have hend : ∀ e w', SendPost (sendS nb v ch) nb base v l seq cu ch m ob w (accept cut at' l.length seq ps) e w' → e = .returned (.int .i64 (accept cut at' l.length seq ps).length) ∧
      ∃ F', Nt base nb (S ++ accept cut at' l.length seq ps) (seq + (accept cut at' l.length seq ps).length) cu m ob F' w' ∧ Step (sendS nb v ch) F' w w' := by
    rintro e w' ⟨rfl, c, v', l', hr, hc⟩
    obtain ⟨s, r, hcc⟩ := hr.chan
    have hst : ∀ k, sendS nb v' (.chan (some c)) k → sendS nb v ch k ∨ w.heap.size ≤ k := by
      rintro k ((hk | hk) | hk)
      · exact .inl (.inl (.inl hk))
      · rcases hr.lies k hk with h | h
        · exact .inl (.inl (.inr h))
        · exact .inr h
      · have e : c = k := by injection hk with hk; injection hk
        subst e
        exact hc.imp (fun h => .inr h) id
    refine ⟨rfl, _, ⟨v', .chan (some c), l', hr.net, hr.perm.trans (hp.append_right _), .inr ⟨c, s, r, rfl, hcc⟩, hr.cutw, ?_, ?_, Nat.le_trans hb hr.fr.size, rfl⟩, hr.fr, hst⟩
    · intro b hb' hk
      have hlt := (Array.getElem?_eq_some_iff.1 (hcw b hb')).1
      rcases hst b hk with h | h
      · exact hmF b hb' h
      · omega
    · intro k hk
      refine ⟨?_, ?_⟩
      · rcases hst k hk with h | h
        · exact (hge k h).1
        · omega
      · rcases hk with (hk | hk) | hk
        · rw [hk]; exact cell_lt hr.net.c1
        · exact (hr.net.h.2.2.1.lt k hk).2
        · have e : c = k := by injection hk with hk; injection hk
          rw [← e]
          exact (Array.getElem?_eq_some_iff.1 hcc).1
  rcases hch with rfl | ⟨c, s, r, rfl, hcc⟩
  · exact (net_send_nil nb base v l seq at' cu m ob w cut ps p n cap hI hcw hmF hlk hR hRS hda hn hs0 hs).mono hend
  · exact (net_send_ch nb base c v l seq at' cu m ob w cut ps p n cap hI ⟨s, r, hcc⟩ hcw hmF hlk hR hRS hda hn hs0 hs).mono hend

/-- Due, of a net that has nothing. -/
theorem nt_due_none (now : Int) (h : Nt base nb [] seq cu m ob F w) :
    Calls Try.prog 15 #[.pointer (some ⟨nb, 0, none⟩), .int .i64 now] w fun e w' => e = .returned (.tuple #[pkv 0 0 ByteArray.empty, .bool false]) ∧ Below w.heap.size w w' := by
  obtain ⟨v, ch, l, hI, hp, _⟩ := h
  have : l = [] := List.perm_nil.1 hp
  subst this
  exact net_due_none nb base v seq now cu ch w hI

/-- Due: x, the first of all, is taken if its time has come. -/
theorem nt_due (now : Int) (h : Nt base nb S seq cu m ob F w) (hS : 0 < S.length) :
    ∃ x, x ∈ S ∧ (∀ y ∈ S, wlt y x = false) ∧
      (now < x.at' → Calls Try.prog 15 #[.pointer (some ⟨nb, 0, none⟩), .int .i64 now] w fun e w' => e = .returned (.tuple #[pkv 0 0 ByteArray.empty, .bool false]) ∧ Below w.heap.size w w') ∧
      (x.at' ≤ now → Calls Try.prog 15 #[.pointer (some ⟨nb, 0, none⟩), .int .i64 now] w fun e w' => e = .returned (.tuple #[pkv x.fr x.to x.da, .bool true]) ∧
        ∃ S' F', (x :: S').Perm S ∧ Nt base nb S' seq cu m ob F' w' ∧ Step F F' w w') := by
  obtain ⟨v, ch, l, hI, hp, hch, hcw, hmF, hge, hb, rfl⟩ := h
  have hl : 0 < l.length := by rw [hp.length_eq]; exact hS
  refine ⟨HL.el l 0, hp.mem_iff.1 (HL.el_mem l 0 hl), fun y hy => hI.hp.least_mem wlt_ord y (hp.mem_iff.2 hy), fun hn => net_due_early nb base v l seq now cu ch w hI hl hn, fun hn => (net_due_take nb base v l seq now cu ch w hI hl hn).mono ?_⟩
  rintro e w' ⟨rfl, v', l', hI', hp', hF, hv⟩
  obtain ⟨F', hN, hst⟩ := nt_step hI hch hcw hmF hge hb hI' (List.Perm.refl l') hF (fun g hg => .inl (by rw [← hv]; exact hg))
  exact ⟨rfl, l', F', hp'.trans hp, hN, hst⟩

theorem nt_pull (k : Nat) (h : Nt base nb S seq cu m ob F w) (hk : k < S.length) :
    Calls Try.prog 25 #[.pointer (some ⟨nb, 0, none⟩), .int .i64 k] w fun e w' => ∃ (x : Nd) (ts : List Nd), e = .returned (.tuple #[pkv x.fr x.to x.da, .bool true]) ∧ ts.Perm S ∧ SortedD ts ∧ x = HL.el ts k ∧
      ∃ S' F', (x :: S').Perm S ∧ Nt base nb S' seq cu m ob F' w' ∧ Step F F' w w' := by
  obtain ⟨v, ch, l, hI, hp, hch, hcw, hmF, hge, hb, rfl⟩ := h
  have hl : k < l.length := by rw [hp.length_eq]; exact hk
  refine (net_pull_find nb base v l seq k cu ch w hI hl).mono ?_
  rintro e w' ⟨i, ts, rfl, hi, hts, hsd, hel, v', l', hI', hp', hF, hv⟩
  obtain ⟨F', hN, hst⟩ := nt_step hI hch hcw hmF hge hb hI' (List.Perm.refl l') hF (fun g hg => .inl (by rw [← hv]; exact hg))
  exact ⟨_, ts, rfl, hts.trans hp, hsd, hel, l', F', hp'.trans hp, hN, hst⟩
end
end Go.Proofs.Ythdpajgnigilhaa
