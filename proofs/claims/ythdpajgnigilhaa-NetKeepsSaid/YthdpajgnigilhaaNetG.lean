/- net's Net: Send. -/
import Derived.Test.YthdpajgnigilhaaNetF
import Derived.Test.YthdpajgnigilhaaNetC
import Derived.Deep.RegionHeld3
import Derived.Outline
namespace Go.Proofs.Ythdpajgnigilhaa
open Go.RowKit Go.Conc

/-- A packet. -/
structure Pk where
  fr : Int
  to : Int
  da : ByteArray
deriving Inhabited
def pcells (x : Pk) : List Value := [.int .i64 x.fr, .int .i64 x.to, .string x.da]
theorem pcells_length (x : Pk) : (pcells x).length = 3 := rfl

/-- What stands in the heap more when packets were sent. -/
def accept (cut : Int → Int → Bool) (at' : Int) (n0 : Nat) (s0 : Int) (ps : List Pk) : List Nd :=
  ps.foldl (fun a x => if cut x.fr x.to || decide (600 ≤ n0 + a.length) then a else a ++ [⟨x.fr, x.to, x.da, at', s0 + a.length + 1⟩]) []

theorem accept_snoc (cut : Int → Int → Bool) (at' : Int) (n0 : Nat) (s0 : Int) (ps : List Pk) (x : Pk) :
    accept cut at' n0 s0 (ps ++ [x]) = if cut x.fr x.to || decide (600 ≤ n0 + (accept cut at' n0 s0 ps).length) then accept cut at' n0 s0 ps else accept cut at' n0 s0 ps ++ [⟨x.fr, x.to, x.da, at', s0 + (accept cut at' n0 s0 ps).length + 1⟩] := by
  simp [accept, List.foldl_append]

/-- The map of what is cut lies as it lay. -/
def CutW (m : Option Nat) (ob : Obj) (w : World) : Prop := ∀ b, m = some b → w.heap[b]? = some ob
theorem CutW.keep {m : Option Nat} {ob : Obj} {w w' : World} (h : CutW m ob w) {S : Nat → Prop} (hf : Fr S w w') (hS : ∀ b, m = some b → ¬ S b) : CutW m ob w' := fun b hb =>
  (hf.block b (Array.getElem?_eq_some_iff.1 (h b hb)).1 (hS b hb)).trans (h b hb)

theorem NetI.ch_set {nb base : Nat} {v : Value} {l : List Nd} {seq : Int} {cu ch : Value} {w : World} (h : NetI nb base v l seq cu ch w) (ch' : Value) :
    NetI nb base v l seq cu ch' (w.setCell ⟨nb, 3, none⟩ ch') ∧ Fr (fun k => k = nb) w (w.setCell ⟨nb, 3, none⟩ ch') := by
  obtain ⟨⟨a1, a2, a3, a4, a5, a6⟩, b, c, d, e, f, g, i⟩ := h
  have hF : Fr (fun k => k = nb) w (w.setCell ⟨nb, 3, none⟩ ch') := (Fr.refl (fun k => k = nb) w).setCell (p := ⟨nb, 3, none⟩) (fun _ => rfl) _
  refine ⟨⟨⟨?_, by rw [frozen_set]; exact a2, hF.owns a3 (fun g hg e => a4 (by rw [hg, e])), a4, a5, Nat.le_trans a6 hF.size⟩, ?_, by rw [frozen_set]; exact c, ?_, by rw [frozen_set]; exact e, cell_set_same _ _ _ _ f, by rw [frozen_set]; exact g, i⟩, hF⟩
  · rw [World.cell?_setCell_other _ _ _ _ (by simp)]; exact a1
  · rw [World.cell?_setCell_other _ _ _ _ (by simp)]; exact b
  · rw [World.cell?_setCell_other _ _ _ _ (by simp)]; exact d

/-- Between two packets. -/
structure SendRel (S : Nat → Prop) (w : World) (nb base c : Nat) (v : Value) (l : List Nd) (seq : Int) (cu : Value) (m : Option Nat) (ob : Obj) (acc : List Nd) (v' : Value) (l' : List Nd) (wr : World) : Prop where
  net : NetI nb base v' l' (seq + acc.length) cu (.chan (some c)) wr
  perm : l'.Perm (l ++ acc)
  lies : ∀ g, v'.ownBlock = some g → Lies v g w.heap.size
  chan : ∃ s r, wr.heap[c]? = some (pchan 1 s r #[])
  cutw : CutW m ob wr
  fr : Fr S w wr

abbrev look (cu : Value) (a b : Int) (r : Bool) (W : World) : Prop := (Instr.lookup 48 cu (.agg #[.int .i64 (min a b), .int .i64 (max a b)]) true).run Try.prog W = .ok (.tuple #[.agg #[], .bool r]) W

theorem chan_some_nil (c : Nat) (w : World) : (binOp .eql 49 (.chan (some c)) (.chan none)).run Try.prog w = .ok (.bool false) w := by kernel_rfl
theorem chan_nil_nil (w : World) : (binOp .eql 49 (.chan none) (.chan none)).run Try.prog w = .ok (.bool true) w := by kernel_rfl

set_option maxRecDepth 100000 in
theorem clone_str (s : ByteArray) (w : World) (hs : s.size ≤ 1000000) :
    Calls Try.prog 32 #[.string s] w fun e w' => e = .returned (.string s) ∧ Below w.heap.size w w' := by
  have HC := Lib.hid (Try.stringslite_Clone s w (by omega))
  go_enter Try.func32, Try.ntmps32
  go_wp2_with fail
  refine HC.out.mono ?_
  rintro e w' ⟨rfl, hb⟩
  go_wp2
  go_ret
  exact ⟨rfl, hb⟩

def sendS (nb : Nat) (v ch : Value) : Nat → Prop := fun k => netF nb v k ∨ ch = .chan (some k)
def SendPost (S : Nat → Prop) (nb base : Nat) (v : Value) (l : List Nd) (seq : Int) (cu ch : Value) (m : Option Nat) (ob : Obj) (w : World) (acc : List Nd) (e : Ending) (w' : World) : Prop :=
  e = .returned (.int .i64 acc.length) ∧ ∃ c v' l', SendRel S w nb base c v l seq cu m ob acc v' l' w' ∧ (ch = .chan (some c) ∨ w.heap.size ≤ c)

theorem rd_pkt {w : World} {n : Nat} {b o : Nat} {zs : List Pk} (hz : zs.length = n) (hc : ∀ j u, (rowOf pcells zs)[j]? = some u → w.cell? ⟨b, o + j, none⟩ = some u) (k : Nat) (hk : k < n) :
    w.cell? ⟨b, o + k * 3, none⟩ = some (.int .i64 (HL.el zs k).fr) ∧ w.cell? ⟨b, o + k * 3 + 1, none⟩ = some (.int .i64 (HL.el zs k).to) ∧ w.cell? ⟨b, o + k * 3 + 2, none⟩ = some (.string (HL.el zs k).da) := by
  have r := fun c hcl => rowOf_at pcells pcells_length zs k c (by omega) hcl
  have e : ∀ c, o + (k * 3 + c) = o + k * 3 + c := fun c => by omega
  refine ⟨?_, ?_, ?_⟩
  · exact hc _ _ ((r 0 (by omega)).trans rfl)
  · rw [← e]; exact hc _ _ ((r 1 (by omega)).trans rfl)
  · rw [← e]; exact hc _ _ ((r 2 (by omega)).trans rfl)

theorem take_el (zs : List Pk) (k : Nat) (h : k < zs.length) : zs.take (k + 1) = zs.take k ++ [HL.el zs k] := by
  rw [List.take_succ_eq_append_getElem h]
  congr 2
  simp [HL.el, List.getD, h]

theorem accept_le (cut : Int → Int → Bool) (at' : Int) (n0 : Nat) (s0 : Int) (ps : List Pk) (k : Nat) (hk : k ≤ ps.length) : (accept cut at' n0 s0 (ps.take k)).length ≤ k := by
  induction k with
  | zero => simp [accept]
  | succ k ih =>
    rw [take_el ps k (by omega), accept_snoc]
    have := ih (by omega)
    split
    · omega
    · rw [List.length_append, List.length_singleton]; omega

theorem NetI.not_chan {nb base : Nat} {v : Value} {l : List Nd} {seq : Int} {cu ch : Value} {w : World} (h : NetI nb base v l seq cu ch w) {c cap s r : Nat} {buf : Array Value} {cl tm : Bool} (hc : w.heap[c]? = some (.chan cap buf cl s r tm)) : ¬ netF nb v c := by
  rintro (rfl | hv)
  · have := h.c1
    unfold World.cell? at this
    simp only at this
    rw [hc] at this
    simp at this
  · rcases h.h.2.2.1.2 with ⟨e, _⟩ | ⟨g, cap', cur, e, _, hg, _⟩
    · rw [e] at hv; cases hv
    · rw [e] at hv
      have : g = c := by simpa [Value.ownBlock] using hv
      subst this
      rw [hc] at hg
      cases hg

section
variable {S : Nat → Prop} {w wr W : World} {nb base c : Nat} {v v' : Value} {l l' acc : List Nd} {seq : Int} {cu : Value} {m : Option Nat} {ob : Obj}
theorem SendRel.keep (h : SendRel S w nb base c v l seq cu m ob acc v' l' wr) (hF : Fr (fun _ => False) wr W) : SendRel S w nb base c v l seq cu m ob acc v' l' W := by
  obtain ⟨h1, h2, h3, ⟨s, r, h4⟩, h5, h6⟩ := h
  refine ⟨h1.keep hF (fun _ _ h => h), h2, h3, ⟨s, r, (hF.block c (Array.getElem?_eq_some_iff.1 h4).1 (fun h => h)).trans h4⟩, h5.keep hF (fun _ _ h => h), Fr.trans h6 hF (fun _ h _ => h.elim)⟩

theorem SendRel.own_lt (h : SendRel S w nb base c v l seq cu m ob acc v' l' wr) (hS : ∀ k, netF nb v k → S k) {i : Nat} (hi : netF nb v' i) (hlt : i < w.heap.size) : S i := by
  rcases hi with hi | hi
  · exact hS i (.inl hi)
  · rcases h.lies i hi with g | g
    · exact hS i (.inr g)
    · omega

/-- A packet has come into the heap. -/
theorem SendRel.pushed (h : SendRel S w nb base c v l seq cu m ob acc v' l' wr) (hS : ∀ k, netF nb v k → S k) (hSc : c < w.heap.size → S c) (hm : ∀ b, m = some b → ¬ S b) (hcw : CutW m ob w) {x : Nd} {s r : Nat} {W3 : World} {v3 : Value} {l3 : List Nd}
    (hF : Fr (fun k => k = c) wr W) (hch : W.heap[c]? = some (pchan 1 s r #[])) (hN : NetI nb base v3 l3 (seq + acc.length + 1) cu (.chan (some c)) W3) (hp : l3.Perm (l' ++ [x])) (hF3 : Fr (netF nb v') W W3) (hl : ∀ g, v3.ownBlock = some g → Lies v' g W.heap.size) :
    SendRel S w nb base c v l seq cu m ob (acc ++ [x]) v3 l3 W3 := by
  have hnc : ¬ netF nb v' c := by obtain ⟨_, _, hc⟩ := h.chan; exact h.net.not_chan hc
  have hsz := Nat.le_trans h.fr.size hF.size
  have hFF : Fr S w W3 := Fr.trans (Fr.trans h.fr hF (fun i hi hl9 => by have e9 : i = c := hi; rw [e9]; exact hSc (by omega))) hF3 (fun i hi hlt => h.own_lt hS hi hlt)
  refine ⟨?_, ?_, ?_, ⟨s, r, (hF3.block c (Array.getElem?_eq_some_iff.1 hch).1 hnc).trans hch⟩, hcw.keep hFF hm, hFF⟩
  · rw [List.length_append, List.length_singleton, Int.natCast_add, ← Int.add_assoc]
    exact hN
  · refine hp.trans ?_
    rw [← List.append_assoc]
    exact h.perm.append_right _
  · intro g hg
    rcases hl g hg with e | e
    · exact h.lies g e
    · exact .inr (by omega)
end

theorem setChan_other (w : World) (c c' cap : Nat) (buf : Array Value) (closed : Bool) (s r : Nat) (tm : Bool) (h : c ≠ c') : (w.setChan c cap buf closed s r tm).heap[c']? = w.heap[c']? := by
  simp [World.setChan, Array.getElem?_setIfInBounds_ne h]
theorem fr_setChan {S : Nat → Prop} {w w1 : World} (h : Fr S w w1) {c : Nat} (hc : c < w.heap.size → S c) (cap : Nat) (buf : Array Value) (cl : Bool) (s r : Nat) (tm : Bool) : Fr S w (w1.setChan c cap buf cl s r tm) :=
  ⟨h.os, h.tape, h.output, by rw [size_setChan]; exact h.size, fun i hi hs => (setChan_other w1 c i cap buf cl s r tm (by rintro rfl; exact hs (hc hi))).trans (h.block i hi hs)⟩

/-- At the head of Send's loop. -/
def SendLoop (S : Nat → Prop) (nb base c : Nat) (v : Value) (l : List Nd) (seq at' : Int) (cu : Value) (m : Option Nat) (ob : Obj) (w : World) (cut : Int → Int → Bool) (ps : List Pk) (p : Option Addr) (n cap : Nat) (a : Act) (wr : World) : Prop :=
  ∃ u3 u4 u5 u8 u9 u10 u11 u12 u13 u14 u15 u16 u17 u18 u19 u20 u21 u22 u23 u27 u28 u29 u30 u31 u32 u33 u34 u35 u36 u37 u38 u39 u40 u41 u42 u43 u44 u45 u46 u47 u48 u49 u50 u51 u52 u53 u54 u55 u56 u57 u58 u59 u60 u61 u62 u63 u64 u65 u66 u67 u68 u69 u70 u71 u72 u73 u74 u75 u76 u77 u78 u79 k acc v' l', k ≤ n ∧ a = { tmps := #[.pointer (some ⟨nb, 0, none⟩), .int .i64 at', .slice p n cap, u3, u4, u5, .int .i64 0, .int .i64 acc.length, u8, u9, u10, u11, u12, u13, u14, u15, u16, u17, u18, u19, u20, u21, u22, u23, .slice p n cap, .int .i64 n, .int .i64 k, u27, u28, u29, u30, u31, u32, u33, u34, u35, u36, u37, u38, u39, u40, u41, u42, u43, u44, u45, u46, u47, u48, u49, u50, u51, u52, u53, u54, u55, u56, u57, u58, u59, u60, u61, u62, u63, u64, u65, u66, u67, u68, u69, u70, u71, u72, u73, u74, u75, u76, u77, u78, u79], defers := [] } ∧ acc = accept cut at' l.length seq (ps.take k) ∧ SendRel (S) w nb base c v l seq cu m ob acc v' l' wr

set_option maxHeartbeats 8000000 in
set_option maxRecDepth 100000 in
/-- Send, where the channel is there. -/
theorem net_send_ch (nb base c : Nat) (v : Value) (l : List Nd) (seq at' : Int) (cu : Value) (m : Option Nat) (ob : Obj) (w : World) (cut : Int → Int → Bool) (ps : List Pk) (p : Option Addr) (n cap : Nat)
    (h : NetI nb base v l seq cu (.chan (some c)) w) (hch : ∃ s r, w.heap[c]? = some (pchan 1 s r #[])) (hcw : CutW m ob w) (hmS : ∀ b, m = some b → ¬ sendS nb v (.chan (some c)) b)
    (hlk : Hid (∀ k, k < n → ∀ W, CutW m ob W → look cu (HL.el ps k).fr (HL.el ps k).to (cut (HL.el ps k).fr (HL.el ps k).to) W))
    (hR : RdG pcells w w.heap.size p n ps) (hRS : ∀ b o, p = some ⟨b, o, none⟩ → ¬ sendS nb v (.chan (some c)) b) (hda : Hid (∀ k, k < n → (HL.el ps k).da.size ≤ 1000000)) (hn : n ≤ 100000) (hs0 : 0 ≤ seq) (hs : seq ≤ 500000) :
    Calls Try.prog 10 #[.pointer (some ⟨nb, 0, none⟩), .int .i64 at', .slice p n cap] w (SendPost (sendS nb v (.chan (some c))) nb base v l seq cu (.chan (some c)) m ob w (accept cut at' l.length seq ps)) := by
  have hc3 := h.c3
  have hlt := cell_lt h.c1
  have hcq := chan_some_nil c
  have HR := Lib.hid hR
  have HRS := Lib.hid hRS
  have HMS := Lib.hid hmS
  have HCW0 := Lib.hid hcw
  have hz := hR.1
  have HZ := Lib.hid hz
  have HI0 : Hid (SendRel (sendS nb v (.chan (some c))) w nb base c v l seq cu m ob [] v l w) := Lib.hid ⟨by simpa using h, by simp, fun g hg => .inl hg, hch, hcw, Fr.refl _ _⟩
  have HSS : Hid (∀ k, netF nb v k → sendS nb v (.chan (some c)) k) := Lib.hid (fun _ h => .inl h)
  have HSC : Hid (c < w.heap.size → sendS nb v (.chan (some c)) c) := Lib.hid (fun _ => .inr rfl)
  have HCC : Hid ((.chan (some c) : Value) = .chan (some c) ∨ w.heap.size ≤ c) := Lib.hid (.inl rfl)
  clear h hch hcw hR hRS hmS hz
  generalize sendS nb v (.chan (some c)) = S at *
  refine calls_of_wpN Try.func10 rfl (by rintro _ ⟨h, _⟩; cases h) ?_
  simp only [Try.ntmps10, List.size_toArray, List.length_cons, List.length_nil, Nat.reduceAdd, Nat.reduceSub, Array.replicate_succ, Array.replicate_zero, List.push_toArray, List.append_toArray, List.nil_append, List.cons_append]
  iterate 4
    refine wpN_seq (wpN_of ?_)
    go_wp2
  clear hcq
  refine wpN_seq (wpN_seq (wpN_of ?_))
  go_wp2
  refine wpN_block ?_
  refine wpN_loop (SendLoop S nb base c v l seq at' cu m ob w cut ps p n cap) (fun a _ => n - (intOf (a.tmps.getD 26 undef)).toNat)
    (by unfold SendLoop; exact ⟨undef, undef, undef, undef, undef, undef, undef, undef, .pointer (some ⟨nb, 0, none⟩), .bool false, .pointer (some ⟨nb, 0, none⟩), .pointer (some ⟨nb, 0, none⟩), .pointer (some ⟨nb, 3, none⟩), .chan (some c), .bool false, undef, undef, undef, undef, undef, undef, undef, undef, undef, undef, undef, undef, undef, undef, undef, undef, undef, undef, undef, undef, undef, undef, undef, undef, undef, undef, undef, undef, undef, undef, undef, undef, undef, undef, undef, undef, undef, undef, undef, undef, undef, undef, undef, undef, undef, undef, undef, undef, undef, undef, undef, undef, undef, undef, undef, undef, undef, 0, [], v, l, Nat.zero_le _, rfl, rfl, HI0.out⟩) ?_
  rintro a wr ⟨u3, u4, u5, u8, u9, u10, u11, u12, u13, u14, u15, u16, u17, u18, u19, u20, u21, u22, u23, u27, u28, u29, u30, u31, u32, u33, u34, u35, u36, u37, u38, u39, u40, u41, u42, u43, u44, u45, u46, u47, u48, u49, u50, u51, u52, u53, u54, u55, u56, u57, u58, u59, u60, u61, u62, u63, u64, u65, u66, u67, u68, u69, u70, u71, u72, u73, u74, u75, u76, u77, u78, u79, k, acc, v', l', hk, rfl, hacc, hI⟩
  -- ROUND
  clear HI0 hc3
  have hal := accept_le cut at' l.length seq ps k (by have := HZ.out; omega)
  have hsn := fun hkl : k < n => (congrArg (accept cut at' l.length seq) (take_el ps k (by have := HZ.out; omega))).trans (accept_snoc cut at' l.length seq (ps.take k) (HL.el ps k))
  have HSN := Lib.hid hsn
  have HACC := Lib.hid hacc
  rw [← hacc] at hal
  clear hsn hacc
  by_cases hkl : k < n
  · obtain ⟨b, o, hp, hb, hc⟩ := HR.out.2 (by omega)
    subst hp
    have hx := rd_pkt HZ.out (fun j u hu => (hI.fr.cell (p := ⟨b, o + j, none⟩) hb (HRS.out b o rfl)).trans (hc j u hu)) k hkl
    have hsz := hI.fr.size
    have hbw : b < wr.heap.size := by omega
    have hls : l.length + acc.length = l'.length := by have := hI.perm.length_eq; rw [List.length_append] at this; omega
    have HSK : Hid (accept cut at' l.length seq (ps.take (k + 1)) = if cut (HL.el ps k).fr (HL.el ps k).to || decide (600 ≤ l.length + acc.length) then acc else acc ++ [⟨(HL.el ps k).fr, (HL.el ps k).to, (HL.el ps k).da, at', seq + acc.length + 1⟩]) := Lib.hid (by rw [HSN.out hkl, ← HACC.out])
    have hdk := hda.out k hkl
    have hlk1 := Lib.hid (hlk.out k hkl)
    have hc2 := hI.net.c2
    have hc3 := hI.net.c3
    obtain ⟨q, d, hv'⟩ := owns_slice hI.net.h.2.2.1
    have hc0 := hI.net.h.1
    rw [hv'] at hc0
    have HV' := Lib.hid hv'
    have hnw := cell_lt hc2
    have HI := Lib.hid hI
    have HC := Lib.hid hc
    clear hI hc HSN hv'
    generalize HL.el ps k = x at *
    generalize hll : l'.length = n' at *
    have HLL := Lib.hid hll
    clear hll
    obtain ⟨x0, x1, x2⟩ := hx
    refine wpN_seq (wpN_of ?_)
    go_wp2
    refine wpN_seq (wpN_of ?_)
    go_wp2
    have HLS := Lib.hid hls
    clear hls
    refine wpN_seq (wpN_block ?_)
    refine wpN_seq (wpN_of ?_)
    go_wp2
    have b0 : (wr.alloc (.cells #[.int .i64 x.fr, .int .i64 x.to, .string x.da] 34)).cell? ⟨wr.heap.size, 0, none⟩ = some (.int .i64 x.fr) := by go_simp
    have b1 : (wr.alloc (.cells #[.int .i64 x.fr, .int .i64 x.to, .string x.da] 34)).cell? ⟨wr.heap.size, 1, none⟩ = some (.int .i64 x.to) := by clear b0; go_simp
    have b2 : (wr.alloc (.cells #[.int .i64 x.fr, .int .i64 x.to, .string x.da] 34)).cell? ⟨wr.heap.size, 2, none⟩ = some (.string x.da) := by clear b0 b1; go_simp
    have f2 : (wr.alloc (.cells #[.int .i64 x.fr, .int .i64 x.to, .string x.da] 34)).frozen? ⟨wr.heap.size, 2, none⟩ = false := by clear b0 b1 b2; go_simp
    have hF1 : Fr (fun _ => False) wr (wr.alloc (.cells #[.int .i64 x.fr, .int .i64 x.to, .string x.da] 34)) := (Fr.refl _ wr).alloc _
    have hz1 : (wr.alloc (.cells #[.int .i64 x.fr, .int .i64 x.to, .string x.da] 34)).heap.size = wr.heap.size + 1 := by simp
    generalize (wr.alloc (.cells #[.int .i64 x.fr, .int .i64 x.to, .string x.da] 34)) = W1 at *
    have c2 : W1.cell? ⟨nb, 2, none⟩ = some cu := (hF1.cell (p := ⟨nb, 2, none⟩) hnw (fun h => h)).trans hc2
    have HF1 := Lib.hid hF1
    have HK := Lib.hid (And.intro hc0 hc3)
    have HZ1 := Lib.hid hz1
    have HB2 := Lib.hid (And.intro b2 f2)
    have hw1 : nb < W1.heap.size := by omega
    have hw2 : wr.heap.size < W1.heap.size := by omega
    have HI1 := Lib.hid (HI.out.keep hF1)
    have HRX := Lib.hid (And.intro x0 (And.intro x1 x2))
    clear hc0 hc3 hF1 hz1 b2 f2 x0 x1 x2 hc2
    refine wpN_seq (wpN_of ?_)
    go_wp2_with fail
    have HCW : Hid (∀ V, Below W1.heap.size W1 V → CutW m ob V) := Lib.hid (fun V hb => HI1.out.cutw.keep (Fr.of_all (S := fun _ => False) hb) (fun _ _ h => h))
    refine Code.wp_mono (Q := fun e a W => ∃ Bt, e = .normal ∧ a = { tmps := #[.pointer (some ⟨nb, 0, none⟩), .int .i64 at', .slice (some ⟨b, o, none⟩) n cap, u3, u4, u5, .int .i64 0, .int .i64 acc.length, u8, .pointer (some ⟨wr.heap.size, 0, none⟩), .pointer (some ⟨Bt, 0, none⟩), .bool (cut x.fr x.to), u12, u13, u14, u15, u16, u17, u18, u19, u20, u21, u22, u23, .slice (some ⟨b, o, none⟩) n cap, .int .i64 n, .int .i64 k, .bool true, .pointer (some ⟨b, o + k * 3, none⟩), .agg #[.int .i64 x.fr, .int .i64 x.to, .string x.da], .tuple #[.agg #[], .bool (cut x.fr x.to)], .pointer (some ⟨nb, 0, none⟩), .pointer (some ⟨nb, 0, none⟩), .pointer (some ⟨nb, 2, none⟩), cu, .pointer (some ⟨wr.heap.size, 0, none⟩), .int .i64 x.fr, .pointer (some ⟨wr.heap.size, 1, none⟩), .int .i64 x.to, .agg #[.int .i64 (min x.fr x.to), .int .i64 (max x.fr x.to)], .tuple #[.agg #[], .bool (cut x.fr x.to)], .agg #[], .bool (cut x.fr x.to), u43, u44, u45, u46, u47, u48, u49, u50, u51, u52, u53, u54, u55, u56, u57, u58, u59, u60, u61, u62, u63, u64, u65, u66, u67, u68, u69, u70, u71, u72, u73, u74, u75, u76, u77, u78, u79], defers := [] } ∧ Hid (Below W1.heap.size W1 W)) ?_ ?_
    rotate_left
    · go_region_held3 (fun w' => w'.cell? ⟨nb, 2, none⟩ = some cu ∧ w'.cell? ⟨wr.heap.size, 0, none⟩ = some (.int .i64 x.fr) ∧ w'.cell? ⟨wr.heap.size, 1, none⟩ = some (.int .i64 x.to))
        (first | go_keep | (go_split_ands; refine ⟨?_, ?_, ?_⟩ <;> exact (hq5.cell (by first | exact hw1 | exact hw2)).trans (by assumption)))
        (first
          | (go_at_call 31; refine (net_ends x.fr x.to _).mono ?_; rintro e w5 ⟨rfl, hb5⟩; have hq5 : Below W1.heap.size W1 w5 := (by first | exact ((Below.refl _ W1).drew).trans hb5 | exact (((Below.refl _ W1).alloc (Nat.le_refl _) _).drew).trans (hb5.mono (by simp))); have hlk5 := hlk1.out w5 (HCW.out w5 hq5); have hlk6 := hlk1.out (w5.alloc (.cells #[] 67)) (HCW.out _ (hq5.alloc hq5.size _)); unfold look at hlk5; unfold look at hlk6))
      all_goals first
        | exact ⟨_, rfl, rfl, Lib.hid hq5⟩
        | exact ⟨_, rfl, rfl, Lib.hid (hq5.alloc hq5.size _)⟩
    rintro e a W2 ⟨Bt, rfl, rfl, HB12⟩
    go_wp2
    have hF12 : Fr (fun _ => False) wr W2 := Fr.trans HF1.out (Fr.of_all (S := fun _ => False) HB12.out) (fun _ h _ => h)
    have c02 := (hF12.cell (p := ⟨nb, 0, none⟩) hnw (fun h => h)).trans HK.out.1
    have c32 := (hF12.cell (p := ⟨nb, 3, none⟩) hnw (fun h => h)).trans HK.out.2
    have bb2 := (HB12.out.cell (p := ⟨wr.heap.size, 2, none⟩) hw2).trans HB2.out.1
    have fb2 := (HB12.out.frozen (p := ⟨wr.heap.size, 2, none⟩) hw2).trans HB2.out.2
    have bb0 := (HB12.out.cell (p := ⟨wr.heap.size, 0, none⟩) hw2).trans b0
    have bb1 := (HB12.out.cell (p := ⟨wr.heap.size, 1, none⟩) hw2).trans b1
    have HF12 := Lib.hid hF12
    have hsz2 := HB12.out.size
    clear hF12 b0 b1 c2 HK HB2 HB12
    by_cases hskip : (cut x.fr x.to || decide (600 ≤ l.length + acc.length)) = true
    · have HSK2 := Lib.hid (HSK.out.trans (if_pos hskip))
      have HI2 := Lib.hid (HI.out.keep HF12.out)
      rcases Bool.or_eq_true_iff.1 hskip with hcut | hfull
      · rw [hcut]
        clear hskip hcut
        refine wpN_seq (wpN_of ?_)
        go_wp2
        refine wpN_of ?_
        go_wp2
        refine ⟨by unfold SendLoop; exact ⟨_, _, _, _, _, _, _, _, _, _, _, _, _, _, _, _, _, _, _, _, _, _, _, _, _, _, _, _, _, _, _, _, _, _, _, _, _, _, _, _, _, _, _, _, _, _, _, _, _, _, _, _, _, _, _, _, _, _, _, _, _, _, _, _, _, _, _, _, _, _, _, _, k + 1, acc, v', l', by omega, rfl, HSK2.out.symm, HI2.out⟩, by simp [intOf]; omega⟩
      · have hcf : cut x.fr x.to = false ∨ cut x.fr x.to = true := by cases cut x.fr x.to <;> simp
        have hfl : ¬ (n' : Int) < 600 := by have := HLS.out; have := of_decide_eq_true hfull; omega
        clear hskip hfull
        rcases hcf with hcut | hcut
        all_goals
          rw [hcut]
          clear hcut
          refine wpN_seq (wpN_of ?_)
          go_wp2
          refine wpN_of ?_
          go_wp2
          refine ⟨by unfold SendLoop; exact ⟨_, _, _, _, _, _, _, _, _, _, _, _, _, _, _, _, _, _, _, _, _, _, _, _, _, _, _, _, _, _, _, _, _, _, _, _, _, _, _, _, _, _, _, _, _, _, _, _, _, _, _, _, _, _, _, _, _, _, _, _, _, _, _, _, _, _, _, _, _, _, _, _, k + 1, acc, v', l', by omega, rfl, HSK2.out.symm, HI2.out⟩, by simp [intOf]; omega⟩
    · have hcut : cut x.fr x.to = false := by cases h : cut x.fr x.to <;> simp_all
      have hfl : (n' : Int) < 600 := by
        have h9 : decide (600 ≤ l.length + acc.length) = false := by cases h : decide (600 ≤ l.length + acc.length) <;> simp_all
        have := of_decide_eq_false h9
        have := HLS.out
        omega
      have HSK2 := Lib.hid (HSK.out.trans (if_neg hskip))
      have HI2 := Lib.hid (HI.out.keep HF12.out)
      rw [hcut]
      clear hskip hcut HSK
      have HCL := Lib.hid (fun w => clone_str x.da w hdk)
      refine wpN_seq (wpN_of ?_)
      go_wp2
      refine wpN_seq (wpN_of ?_)
      go_wp2_with fail
      refine (HCL.out _).mono ?_
      rintro e w3 ⟨rfl, hb3⟩
      have hbl : wr.heap.size < W2.heap.size := by omega
      have hnl : nb < W2.heap.size := by omega
      have d0 := (hb3.cell (p := ⟨wr.heap.size, 0, none⟩) hbl).trans bb0
      have d1 := (hb3.cell (p := ⟨wr.heap.size, 1, none⟩) hbl).trans bb1
      have d2 := (hb3.cell (p := ⟨wr.heap.size, 2, none⟩) hbl).trans bb2
      have e2 := (hb3.frozen (p := ⟨wr.heap.size, 2, none⟩) hbl).trans fb2
      have hF3 : Hid (Fr (fun _ => False) wr w3) := Lib.hid (Fr.trans HF12.out (Fr.of_all (S := fun _ => False) hb3) (fun _ h _ => h))
      have hsz3 := hb3.size
      clear bb0 bb1 bb2 fb2 c02 c32 HCL hb3 HI2
      go_wp2
      have hF4 : Fr (fun _ => False) wr (w3.setCell ⟨wr.heap.size, 2, none⟩ (.string x.da)) := hF3.out.setCell (p := ⟨wr.heap.size, 2, none⟩) (fun h => absurd h (by simp)) _
      have g0 : (w3.setCell ⟨wr.heap.size, 2, none⟩ (.string x.da)).cell? ⟨wr.heap.size, 0, none⟩ = some (.int .i64 x.fr) := by rw [World.cell?_setCell_other _ _ _ _ (by simp)]; exact d0
      have g1 : (w3.setCell ⟨wr.heap.size, 2, none⟩ (.string x.da)).cell? ⟨wr.heap.size, 1, none⟩ = some (.int .i64 x.to) := by rw [World.cell?_setCell_other _ _ _ _ (by simp)]; exact d1
      have g2 : (w3.setCell ⟨wr.heap.size, 2, none⟩ (.string x.da)).cell? ⟨wr.heap.size, 2, none⟩ = some (.string x.da) := cell_set_same _ _ _ _ d2
      have hz4 : (w3.setCell ⟨wr.heap.size, 2, none⟩ (.string x.da)).heap.size = w3.heap.size := by simp [World.setCell]
      generalize w3.setCell ⟨wr.heap.size, 2, none⟩ (.string x.da) = W4 at *
      have HI4 := Lib.hid (HI.out.keep hF4)
      have hc34 := HI4.out.net.c3
      have hz5 : wr.heap.size < W4.heap.size := by omega
      have hz6 : nb < W4.heap.size := by omega
      clear hz4 hsz3 hsz2 hbl hnl
      have HF4 := Lib.hid hF4
      clear d0 d1 d2 e2 hF3 hF4 HF12
      refine wpN_seq (wpN_seq (wpN_seq (wpN_of ?_)))
      go_wp2
      refine wpN_of ?_
      go_wp2
      obtain ⟨s, r, hchan⟩ := HI4.out.chan
      have HCH := Lib.hid hchan
      clear hchan
      refine wpN_seq (wpN_sel_send (v := .agg #[.int .i64 x.fr, .int .i64 x.to, .string x.da]) rfl rfl zero_pkt HCH.out (by simp) ?_)
      have hF5 : Fr (fun k => k = c) W4 (W4.setChan c 1 (#[].push (.agg #[.int .i64 x.fr, .int .i64 x.to, .string x.da])) false (s + 1) r false) := fr_setChan (Fr.refl (fun k => k = c) W4) (fun _ => rfl) _ _ _ _ _ _
      have hch5 : (W4.setChan c 1 (#[].push (.agg #[.int .i64 x.fr, .int .i64 x.to, .string x.da])) false (s + 1) r false).heap[c]? = some (pchan 1 (s + 1) r #[.agg #[.int .i64 x.fr, .int .i64 x.to, .string x.da]]) := heap_setChan _ _ _ _ _ _ _ _ (Array.getElem?_eq_some_iff.1 HCH.out).1
      have hz7 : (W4.setChan c 1 (#[].push (.agg #[.int .i64 x.fr, .int .i64 x.to, .string x.da])) false (s + 1) r false).heap.size = W4.heap.size := size_setChan _ _ _ _ _ _ _ _
      generalize W4.setChan c 1 (#[].push (.agg #[.int .i64 x.fr, .int .i64 x.to, .string x.da])) false (s + 1) r false = W5 at *
      have hnc := HI4.out.net.not_chan HCH.out
      have hc35 : W5.cell? ⟨nb, 3, none⟩ = some (.chan (some c)) := (hF5.cell (p := ⟨nb, 3, none⟩) hz6 (fun e => hnc (.inl (by have : nb = c := e; omega)))).trans hc34
      have HF5 := Lib.hid hF5
      have HC5 := Lib.hid hch5
      have hz8 : Hid (W5.heap.size = W4.heap.size) := Lib.hid hz7
      clear hF5 hch5 hz7 g0 g1 g2 hc34
      go_wp2
      refine wpN_of ?_
      go_wp2
      refine wpN_seq (wpN_of ?_)
      go_wp2
      refine wpN_seq (wpN_sel_recv rfl zero_pkt HC5.out (by simp) ?_)
      have hF6 : Fr (fun k => k = c) W5 (W5.setChan c 1 (#[Value.agg #[.int .i64 x.fr, .int .i64 x.to, .string x.da]].extract 1 #[Value.agg #[.int .i64 x.fr, .int .i64 x.to, .string x.da]].size) false (s + 1) (r + 1) false) := fr_setChan (Fr.refl (fun k => k = c) W5) (fun _ => rfl) _ _ _ _ _ _
      have hch6 : (W5.setChan c 1 (#[Value.agg #[.int .i64 x.fr, .int .i64 x.to, .string x.da]].extract 1 #[Value.agg #[.int .i64 x.fr, .int .i64 x.to, .string x.da]].size) false (s + 1) (r + 1) false).heap[c]? = some (pchan 1 (s + 1) (r + 1) #[]) := heap_setChan _ _ _ _ _ _ _ _ (Array.getElem?_eq_some_iff.1 HC5.out).1
      generalize W5.setChan c 1 (#[Value.agg #[.int .i64 x.fr, .int .i64 x.to, .string x.da]].extract 1 #[Value.agg #[.int .i64 x.fr, .int .i64 x.to, .string x.da]].size) false (s + 1) (r + 1) false = W6 at *
      have hgd : (#[Value.agg #[.int .i64 x.fr, .int .i64 x.to, .string x.da]] : Array Value).getD 0 undef = .agg #[.int .i64 x.fr, .int .i64 x.to, .string x.da] := rfl
      rw [hgd]
      have HF46 := Lib.hid (Fr.trans HF5.out hF6 (fun _ h _ => h))
      have HF47 := Lib.hid (HF46.out.alloc (.cells #[.int .i64 x.fr, .int .i64 x.to, .string x.da] 34))
      have HN7 := Lib.hid (HI4.out.net.keep HF47.out (fun k hk e => by have : k = c := e; rw [this] at hk; exact hnc hk))
      have HC6 := Lib.hid (show (W6.alloc (.cells #[.int .i64 x.fr, .int .i64 x.to, .string x.da] 34)).heap[c]? = some (pchan 1 (s + 1) (r + 1) #[]) from (Below.heap_alloc W6 _ c (Array.getElem?_eq_some_iff.1 hch6).1).trans hch6)
      have hlen : l'.length < 1000000 := by have := HLL.out; omega
      clear hF6 hch6 hgd HF5 HC5 hc35
      have HPU := Lib.hid (net_push nb base v' l' (seq + acc.length) at' x.fr x.to x.da cu (.chan (some c)) _ HN7.out (by omega) (by omega) hlen)
      clear hnc
      go_wp2
      refine wpN_of ?_
      go_wp2_with fail
      refine HPU.out.mono ?_
      rintro e w8 ⟨rfl, v3, l3, hN3, hp3, hF3, hl3⟩
      have HI8 := Lib.hid (HI4.out.pushed HSS.out HSC.out HMS.out HCW0.out HF47.out HC6.out hN3 hp3 hF3 hl3)
      clear hN3 hp3 hF3 hl3 HPU
      go_wp2
      have hce : (acc.length : Int) + 1 = ((acc ++ [(⟨x.fr, x.to, x.da, at', seq + acc.length + 1⟩ : Nd)]).length : Int) := by simp
      rw [hce]
      clear hce
      refine wpN_of ?_
      go_wp2
      refine ⟨by unfold SendLoop; exact ⟨_, _, _, _, _, _, _, _, _, _, _, _, _, _, _, _, _, _, _, _, _, _, _, _, _, _, _, _, _, _, _, _, _, _, _, _, _, _, _, _, _, _, _, _, _, _, _, _, _, _, _, _, _, _, _, _, _, _, _, _, _, _, _, _, _, _, _, _, _, _, _, _, k + 1, (acc ++ [⟨x.fr, x.to, x.da, at', seq + acc.length + 1⟩]), v3, l3, by omega, rfl, HSK2.out.symm, HI8.out⟩, by simp [intOf]; omega⟩
  · obtain rfl : k = n := by omega
    have HI1 := Lib.hid hI
    have HAC : Hid (acc = accept cut at' l.length seq ps) := Lib.hid (by rw [HACC.out, List.take_of_length_le (by have := HZ.out; omega)])
    clear hI HSN HACC
    refine wpN_seq (wpN_of ?_)
    go_wp2
    refine wpN_of ?_
    go_wp2
    refine wpN_of ?_
    go_wp2
    go_ret
    refine ⟨by rw [HAC.out]; rfl, c, v', l', ?_, by first | exact .inl rfl | exact HCC.out⟩
    rw [← HAC.out]
    exact HI1.out

set_option maxHeartbeats 8000000 in
set_option maxRecDepth 100000 in
/-- Send, where the channel is not there yet. -/
theorem net_send_nil (nb base : Nat) (v : Value) (l : List Nd) (seq at' : Int) (cu : Value) (m : Option Nat) (ob : Obj) (w : World) (cut : Int → Int → Bool) (ps : List Pk) (p : Option Addr) (n cap : Nat)
    (h : NetI nb base v l seq cu (.chan none) w) (hcw : CutW m ob w) (hmS : ∀ b, m = some b → ¬ sendS nb v (.chan none) b)
    (hlk : Hid (∀ k, k < n → ∀ W, CutW m ob W → look cu (HL.el ps k).fr (HL.el ps k).to (cut (HL.el ps k).fr (HL.el ps k).to) W))
    (hR : RdG pcells w w.heap.size p n ps) (hRS : ∀ b o, p = some ⟨b, o, none⟩ → ¬ sendS nb v (.chan none) b) (hda : Hid (∀ k, k < n → (HL.el ps k).da.size ≤ 1000000)) (hn : n ≤ 100000) (hs0 : 0 ≤ seq) (hs : seq ≤ 500000) :
    Calls Try.prog 10 #[.pointer (some ⟨nb, 0, none⟩), .int .i64 at', .slice p n cap] w (SendPost (sendS nb v (.chan none)) nb base v l seq cu (.chan none) m ob w (accept cut at' l.length seq ps)) := by
  have hc3 := h.c3
  have hf3 := h.f3
  have hlt : nb < w.heap.size := cell_lt h.c1
  have hcq := chan_nil_nil
  have hmk := make_pchan
  have HR := Lib.hid hR
  have HRS := Lib.hid hRS
  have HMS := Lib.hid hmS
  have HCW0 := Lib.hid hcw
  have hz := hR.1
  have HZ := Lib.hid hz
  obtain ⟨c, hcd⟩ : ∃ c, w.heap.size = c := ⟨_, rfl⟩
  have hFA : Fr (fun _ => False) w (w.alloc (pchan 1 0 0 #[])) := (Fr.refl _ w).alloc _
  have hNA := (h.keep hFA (fun _ _ h => h)).ch_set (.chan (some c))
  have HI0 : Hid (SendRel (sendS nb v (.chan none)) w nb base c v l seq cu m ob [] v l ((w.setCell ⟨nb, 3, none⟩ (.chan (some c))).alloc (pchan 1 0 0 #[]))) := Lib.hid (by
    rw [← World.setCell_alloc_past (pchan 1 0 0 #[]) nb 3 (.chan (some c)) hlt]
    have hch : (w.alloc (pchan 1 0 0 #[])).heap[c]? = some (pchan 1 0 0 #[]) := by rw [← hcd]; exact heap_alloc_new w _
    have hFW := Fr.trans hFA hNA.2 (S := fun _ => False) |> fun _ => Fr.trans (hFA.mono (T := sendS nb v (.chan none)) (fun _ _ h => h.elim)) hNA.2 (fun i hi _ => .inl (.inl hi))
    refine ⟨by simpa using hNA.1, by simp, fun g hg => .inl hg, ⟨0, 0, (hNA.2.block c (Array.getElem?_eq_some_iff.1 hch).1 (fun e => by have e9 : c = nb := e; omega)).trans hch⟩, hcw.keep hFW hmS, hFW⟩)
  have HSS : Hid (∀ k, netF nb v k → sendS nb v (.chan none) k) := Lib.hid (fun _ h => .inl h)
  have HSC : Hid (c < w.heap.size → sendS nb v (.chan none) c) := Lib.hid (fun h => by omega)
  have HCC : Hid ((.chan none : Value) = .chan (some c) ∨ w.heap.size ≤ c) := Lib.hid (.inr (by omega))
  have HCD := Lib.hid hcd
  clear h hcw hR hRS hmS hz hFA hNA hcd
  generalize sendS nb v (.chan none) = S at *
  refine calls_of_wpN Try.func10 rfl (by rintro _ ⟨h, _⟩; cases h) ?_
  simp only [Try.ntmps10, List.size_toArray, List.length_cons, List.length_nil, Nat.reduceAdd, Nat.reduceSub, Array.replicate_succ, Array.replicate_zero, List.push_toArray, List.append_toArray, List.nil_append, List.cons_append]
  iterate 2
    refine wpN_seq (wpN_of ?_)
    go_wp2
  refine wpN_seq (wpN_of ?_)
  go_wp2
  rw [HCD.out]
  clear hmk
  refine wpN_seq (wpN_of ?_)
  go_wp2
  clear hcq
  refine wpN_seq (wpN_seq (wpN_of ?_))
  go_wp2
  refine wpN_block ?_
  refine wpN_loop (SendLoop S nb base c v l seq at' cu m ob w cut ps p n cap) (fun a _ => n - (intOf (a.tmps.getD 26 undef)).toNat)
    (by unfold SendLoop; exact ⟨undef, undef, undef, undef, undef, undef, undef, undef, .pointer (some ⟨nb, 0, none⟩), .bool false, .pointer (some ⟨nb, 0, none⟩), .pointer (some ⟨nb, 0, none⟩), .pointer (some ⟨nb, 3, none⟩), .chan none, .bool true, .pointer (some ⟨nb, 0, none⟩), .chan (some c), .pointer (some ⟨nb, 0, none⟩), .pointer (some ⟨nb, 3, none⟩), undef, undef, undef, undef, undef, undef, undef, undef, undef, undef, undef, undef, undef, undef, undef, undef, undef, undef, undef, undef, undef, undef, undef, undef, undef, undef, undef, undef, undef, undef, undef, undef, undef, undef, undef, undef, undef, undef, undef, undef, undef, undef, undef, undef, undef, undef, undef, undef, undef, undef, undef, undef, undef, 0, [], v, l, Nat.zero_le _, rfl, rfl, HI0.out⟩) ?_
  rintro a wr ⟨u3, u4, u5, u8, u9, u10, u11, u12, u13, u14, u15, u16, u17, u18, u19, u20, u21, u22, u23, u27, u28, u29, u30, u31, u32, u33, u34, u35, u36, u37, u38, u39, u40, u41, u42, u43, u44, u45, u46, u47, u48, u49, u50, u51, u52, u53, u54, u55, u56, u57, u58, u59, u60, u61, u62, u63, u64, u65, u66, u67, u68, u69, u70, u71, u72, u73, u74, u75, u76, u77, u78, u79, k, acc, v', l', hk, rfl, hacc, hI⟩
  -- ROUND
  clear HI0 hc3
  have hal := accept_le cut at' l.length seq ps k (by have := HZ.out; omega)
  have hsn := fun hkl : k < n => (congrArg (accept cut at' l.length seq) (take_el ps k (by have := HZ.out; omega))).trans (accept_snoc cut at' l.length seq (ps.take k) (HL.el ps k))
  have HSN := Lib.hid hsn
  have HACC := Lib.hid hacc
  rw [← hacc] at hal
  clear hsn hacc
  by_cases hkl : k < n
  · obtain ⟨b, o, hp, hb, hc⟩ := HR.out.2 (by omega)
    subst hp
    have hx := rd_pkt HZ.out (fun j u hu => (hI.fr.cell (p := ⟨b, o + j, none⟩) hb (HRS.out b o rfl)).trans (hc j u hu)) k hkl
    have hsz := hI.fr.size
    have hbw : b < wr.heap.size := by omega
    have hls : l.length + acc.length = l'.length := by have := hI.perm.length_eq; rw [List.length_append] at this; omega
    have HSK : Hid (accept cut at' l.length seq (ps.take (k + 1)) = if cut (HL.el ps k).fr (HL.el ps k).to || decide (600 ≤ l.length + acc.length) then acc else acc ++ [⟨(HL.el ps k).fr, (HL.el ps k).to, (HL.el ps k).da, at', seq + acc.length + 1⟩]) := Lib.hid (by rw [HSN.out hkl, ← HACC.out])
    have hdk := hda.out k hkl
    have hlk1 := Lib.hid (hlk.out k hkl)
    have hc2 := hI.net.c2
    have hc3 := hI.net.c3
    obtain ⟨q, d, hv'⟩ := owns_slice hI.net.h.2.2.1
    have hc0 := hI.net.h.1
    rw [hv'] at hc0
    have HV' := Lib.hid hv'
    have hnw := cell_lt hc2
    have HI := Lib.hid hI
    have HC := Lib.hid hc
    clear hI hc HSN hv'
    generalize HL.el ps k = x at *
    generalize hll : l'.length = n' at *
    have HLL := Lib.hid hll
    clear hll
    obtain ⟨x0, x1, x2⟩ := hx
    refine wpN_seq (wpN_of ?_)
    go_wp2
    refine wpN_seq (wpN_of ?_)
    go_wp2
    have HLS := Lib.hid hls
    clear hls
    refine wpN_seq (wpN_block ?_)
    refine wpN_seq (wpN_of ?_)
    go_wp2
    have b0 : (wr.alloc (.cells #[.int .i64 x.fr, .int .i64 x.to, .string x.da] 34)).cell? ⟨wr.heap.size, 0, none⟩ = some (.int .i64 x.fr) := by go_simp
    have b1 : (wr.alloc (.cells #[.int .i64 x.fr, .int .i64 x.to, .string x.da] 34)).cell? ⟨wr.heap.size, 1, none⟩ = some (.int .i64 x.to) := by clear b0; go_simp
    have b2 : (wr.alloc (.cells #[.int .i64 x.fr, .int .i64 x.to, .string x.da] 34)).cell? ⟨wr.heap.size, 2, none⟩ = some (.string x.da) := by clear b0 b1; go_simp
    have f2 : (wr.alloc (.cells #[.int .i64 x.fr, .int .i64 x.to, .string x.da] 34)).frozen? ⟨wr.heap.size, 2, none⟩ = false := by clear b0 b1 b2; go_simp
    have hF1 : Fr (fun _ => False) wr (wr.alloc (.cells #[.int .i64 x.fr, .int .i64 x.to, .string x.da] 34)) := (Fr.refl _ wr).alloc _
    have hz1 : (wr.alloc (.cells #[.int .i64 x.fr, .int .i64 x.to, .string x.da] 34)).heap.size = wr.heap.size + 1 := by simp
    generalize (wr.alloc (.cells #[.int .i64 x.fr, .int .i64 x.to, .string x.da] 34)) = W1 at *
    have c2 : W1.cell? ⟨nb, 2, none⟩ = some cu := (hF1.cell (p := ⟨nb, 2, none⟩) hnw (fun h => h)).trans hc2
    have HF1 := Lib.hid hF1
    have HK := Lib.hid (And.intro hc0 hc3)
    have HZ1 := Lib.hid hz1
    have HB2 := Lib.hid (And.intro b2 f2)
    have hw1 : nb < W1.heap.size := by omega
    have hw2 : wr.heap.size < W1.heap.size := by omega
    have HI1 := Lib.hid (HI.out.keep hF1)
    have HRX := Lib.hid (And.intro x0 (And.intro x1 x2))
    clear hc0 hc3 hF1 hz1 b2 f2 x0 x1 x2 hc2
    refine wpN_seq (wpN_of ?_)
    go_wp2_with fail
    have HCW : Hid (∀ V, Below W1.heap.size W1 V → CutW m ob V) := Lib.hid (fun V hb => HI1.out.cutw.keep (Fr.of_all (S := fun _ => False) hb) (fun _ _ h => h))
    refine Code.wp_mono (Q := fun e a W => ∃ Bt, e = .normal ∧ a = { tmps := #[.pointer (some ⟨nb, 0, none⟩), .int .i64 at', .slice (some ⟨b, o, none⟩) n cap, u3, u4, u5, .int .i64 0, .int .i64 acc.length, u8, .pointer (some ⟨wr.heap.size, 0, none⟩), .pointer (some ⟨Bt, 0, none⟩), .bool (cut x.fr x.to), u12, u13, u14, u15, u16, u17, u18, u19, u20, u21, u22, u23, .slice (some ⟨b, o, none⟩) n cap, .int .i64 n, .int .i64 k, .bool true, .pointer (some ⟨b, o + k * 3, none⟩), .agg #[.int .i64 x.fr, .int .i64 x.to, .string x.da], .tuple #[.agg #[], .bool (cut x.fr x.to)], .pointer (some ⟨nb, 0, none⟩), .pointer (some ⟨nb, 0, none⟩), .pointer (some ⟨nb, 2, none⟩), cu, .pointer (some ⟨wr.heap.size, 0, none⟩), .int .i64 x.fr, .pointer (some ⟨wr.heap.size, 1, none⟩), .int .i64 x.to, .agg #[.int .i64 (min x.fr x.to), .int .i64 (max x.fr x.to)], .tuple #[.agg #[], .bool (cut x.fr x.to)], .agg #[], .bool (cut x.fr x.to), u43, u44, u45, u46, u47, u48, u49, u50, u51, u52, u53, u54, u55, u56, u57, u58, u59, u60, u61, u62, u63, u64, u65, u66, u67, u68, u69, u70, u71, u72, u73, u74, u75, u76, u77, u78, u79], defers := [] } ∧ Hid (Below W1.heap.size W1 W)) ?_ ?_
    rotate_left
    · go_region_held3 (fun w' => w'.cell? ⟨nb, 2, none⟩ = some cu ∧ w'.cell? ⟨wr.heap.size, 0, none⟩ = some (.int .i64 x.fr) ∧ w'.cell? ⟨wr.heap.size, 1, none⟩ = some (.int .i64 x.to))
        (first | go_keep | (go_split_ands; refine ⟨?_, ?_, ?_⟩ <;> exact (hq5.cell (by first | exact hw1 | exact hw2)).trans (by assumption)))
        (first
          | (go_at_call 31; refine (net_ends x.fr x.to _).mono ?_; rintro e w5 ⟨rfl, hb5⟩; have hq5 : Below W1.heap.size W1 w5 := (by first | exact ((Below.refl _ W1).drew).trans hb5 | exact (((Below.refl _ W1).alloc (Nat.le_refl _) _).drew).trans (hb5.mono (by simp))); have hlk5 := hlk1.out w5 (HCW.out w5 hq5); have hlk6 := hlk1.out (w5.alloc (.cells #[] 67)) (HCW.out _ (hq5.alloc hq5.size _)); unfold look at hlk5; unfold look at hlk6))
      all_goals first
        | exact ⟨_, rfl, rfl, Lib.hid hq5⟩
        | exact ⟨_, rfl, rfl, Lib.hid (hq5.alloc hq5.size _)⟩
    rintro e a W2 ⟨Bt, rfl, rfl, HB12⟩
    go_wp2
    have hF12 : Fr (fun _ => False) wr W2 := Fr.trans HF1.out (Fr.of_all (S := fun _ => False) HB12.out) (fun _ h _ => h)
    have c02 := (hF12.cell (p := ⟨nb, 0, none⟩) hnw (fun h => h)).trans HK.out.1
    have c32 := (hF12.cell (p := ⟨nb, 3, none⟩) hnw (fun h => h)).trans HK.out.2
    have bb2 := (HB12.out.cell (p := ⟨wr.heap.size, 2, none⟩) hw2).trans HB2.out.1
    have fb2 := (HB12.out.frozen (p := ⟨wr.heap.size, 2, none⟩) hw2).trans HB2.out.2
    have bb0 := (HB12.out.cell (p := ⟨wr.heap.size, 0, none⟩) hw2).trans b0
    have bb1 := (HB12.out.cell (p := ⟨wr.heap.size, 1, none⟩) hw2).trans b1
    have HF12 := Lib.hid hF12
    have hsz2 := HB12.out.size
    clear hF12 b0 b1 c2 HK HB2 HB12
    by_cases hskip : (cut x.fr x.to || decide (600 ≤ l.length + acc.length)) = true
    · have HSK2 := Lib.hid (HSK.out.trans (if_pos hskip))
      have HI2 := Lib.hid (HI.out.keep HF12.out)
      rcases Bool.or_eq_true_iff.1 hskip with hcut | hfull
      · rw [hcut]
        clear hskip hcut
        refine wpN_seq (wpN_of ?_)
        go_wp2
        refine wpN_of ?_
        go_wp2
        refine ⟨by unfold SendLoop; exact ⟨_, _, _, _, _, _, _, _, _, _, _, _, _, _, _, _, _, _, _, _, _, _, _, _, _, _, _, _, _, _, _, _, _, _, _, _, _, _, _, _, _, _, _, _, _, _, _, _, _, _, _, _, _, _, _, _, _, _, _, _, _, _, _, _, _, _, _, _, _, _, _, _, k + 1, acc, v', l', by omega, rfl, HSK2.out.symm, HI2.out⟩, by simp [intOf]; omega⟩
      · have hcf : cut x.fr x.to = false ∨ cut x.fr x.to = true := by cases cut x.fr x.to <;> simp
        have hfl : ¬ (n' : Int) < 600 := by have := HLS.out; have := of_decide_eq_true hfull; omega
        clear hskip hfull
        rcases hcf with hcut | hcut
        all_goals
          rw [hcut]
          clear hcut
          refine wpN_seq (wpN_of ?_)
          go_wp2
          refine wpN_of ?_
          go_wp2
          refine ⟨by unfold SendLoop; exact ⟨_, _, _, _, _, _, _, _, _, _, _, _, _, _, _, _, _, _, _, _, _, _, _, _, _, _, _, _, _, _, _, _, _, _, _, _, _, _, _, _, _, _, _, _, _, _, _, _, _, _, _, _, _, _, _, _, _, _, _, _, _, _, _, _, _, _, _, _, _, _, _, _, k + 1, acc, v', l', by omega, rfl, HSK2.out.symm, HI2.out⟩, by simp [intOf]; omega⟩
    · have hcut : cut x.fr x.to = false := by cases h : cut x.fr x.to <;> simp_all
      have hfl : (n' : Int) < 600 := by
        have h9 : decide (600 ≤ l.length + acc.length) = false := by cases h : decide (600 ≤ l.length + acc.length) <;> simp_all
        have := of_decide_eq_false h9
        have := HLS.out
        omega
      have HSK2 := Lib.hid (HSK.out.trans (if_neg hskip))
      have HI2 := Lib.hid (HI.out.keep HF12.out)
      rw [hcut]
      clear hskip hcut HSK
      have HCL := Lib.hid (fun w => clone_str x.da w hdk)
      refine wpN_seq (wpN_of ?_)
      go_wp2
      refine wpN_seq (wpN_of ?_)
      go_wp2_with fail
      refine (HCL.out _).mono ?_
      rintro e w3 ⟨rfl, hb3⟩
      have hbl : wr.heap.size < W2.heap.size := by omega
      have hnl : nb < W2.heap.size := by omega
      have d0 := (hb3.cell (p := ⟨wr.heap.size, 0, none⟩) hbl).trans bb0
      have d1 := (hb3.cell (p := ⟨wr.heap.size, 1, none⟩) hbl).trans bb1
      have d2 := (hb3.cell (p := ⟨wr.heap.size, 2, none⟩) hbl).trans bb2
      have e2 := (hb3.frozen (p := ⟨wr.heap.size, 2, none⟩) hbl).trans fb2
      have hF3 : Hid (Fr (fun _ => False) wr w3) := Lib.hid (Fr.trans HF12.out (Fr.of_all (S := fun _ => False) hb3) (fun _ h _ => h))
      have hsz3 := hb3.size
      clear bb0 bb1 bb2 fb2 c02 c32 HCL hb3 HI2
      go_wp2
      have hF4 : Fr (fun _ => False) wr (w3.setCell ⟨wr.heap.size, 2, none⟩ (.string x.da)) := hF3.out.setCell (p := ⟨wr.heap.size, 2, none⟩) (fun h => absurd h (by simp)) _
      have g0 : (w3.setCell ⟨wr.heap.size, 2, none⟩ (.string x.da)).cell? ⟨wr.heap.size, 0, none⟩ = some (.int .i64 x.fr) := by rw [World.cell?_setCell_other _ _ _ _ (by simp)]; exact d0
      have g1 : (w3.setCell ⟨wr.heap.size, 2, none⟩ (.string x.da)).cell? ⟨wr.heap.size, 1, none⟩ = some (.int .i64 x.to) := by rw [World.cell?_setCell_other _ _ _ _ (by simp)]; exact d1
      have g2 : (w3.setCell ⟨wr.heap.size, 2, none⟩ (.string x.da)).cell? ⟨wr.heap.size, 2, none⟩ = some (.string x.da) := cell_set_same _ _ _ _ d2
      have hz4 : (w3.setCell ⟨wr.heap.size, 2, none⟩ (.string x.da)).heap.size = w3.heap.size := by simp [World.setCell]
      generalize w3.setCell ⟨wr.heap.size, 2, none⟩ (.string x.da) = W4 at *
      have HI4 := Lib.hid (HI.out.keep hF4)
      have hc34 := HI4.out.net.c3
      have hz5 : wr.heap.size < W4.heap.size := by omega
      have hz6 : nb < W4.heap.size := by omega
      clear hz4 hsz3 hsz2 hbl hnl
      have HF4 := Lib.hid hF4
      clear d0 d1 d2 e2 hF3 hF4 HF12
      refine wpN_seq (wpN_seq (wpN_seq (wpN_of ?_)))
      go_wp2
      refine wpN_of ?_
      go_wp2
      obtain ⟨s, r, hchan⟩ := HI4.out.chan
      have HCH := Lib.hid hchan
      clear hchan
      refine wpN_seq (wpN_sel_send (v := .agg #[.int .i64 x.fr, .int .i64 x.to, .string x.da]) rfl rfl zero_pkt HCH.out (by simp) ?_)
      have hF5 : Fr (fun k => k = c) W4 (W4.setChan c 1 (#[].push (.agg #[.int .i64 x.fr, .int .i64 x.to, .string x.da])) false (s + 1) r false) := fr_setChan (Fr.refl (fun k => k = c) W4) (fun _ => rfl) _ _ _ _ _ _
      have hch5 : (W4.setChan c 1 (#[].push (.agg #[.int .i64 x.fr, .int .i64 x.to, .string x.da])) false (s + 1) r false).heap[c]? = some (pchan 1 (s + 1) r #[.agg #[.int .i64 x.fr, .int .i64 x.to, .string x.da]]) := heap_setChan _ _ _ _ _ _ _ _ (Array.getElem?_eq_some_iff.1 HCH.out).1
      have hz7 : (W4.setChan c 1 (#[].push (.agg #[.int .i64 x.fr, .int .i64 x.to, .string x.da])) false (s + 1) r false).heap.size = W4.heap.size := size_setChan _ _ _ _ _ _ _ _
      generalize W4.setChan c 1 (#[].push (.agg #[.int .i64 x.fr, .int .i64 x.to, .string x.da])) false (s + 1) r false = W5 at *
      have hnc := HI4.out.net.not_chan HCH.out
      have hc35 : W5.cell? ⟨nb, 3, none⟩ = some (.chan (some c)) := (hF5.cell (p := ⟨nb, 3, none⟩) hz6 (fun e => hnc (.inl (by have : nb = c := e; omega)))).trans hc34
      have HF5 := Lib.hid hF5
      have HC5 := Lib.hid hch5
      have hz8 : Hid (W5.heap.size = W4.heap.size) := Lib.hid hz7
      clear hF5 hch5 hz7 g0 g1 g2 hc34
      go_wp2
      refine wpN_of ?_
      go_wp2
      refine wpN_seq (wpN_of ?_)
      go_wp2
      refine wpN_seq (wpN_sel_recv rfl zero_pkt HC5.out (by simp) ?_)
      have hF6 : Fr (fun k => k = c) W5 (W5.setChan c 1 (#[Value.agg #[.int .i64 x.fr, .int .i64 x.to, .string x.da]].extract 1 #[Value.agg #[.int .i64 x.fr, .int .i64 x.to, .string x.da]].size) false (s + 1) (r + 1) false) := fr_setChan (Fr.refl (fun k => k = c) W5) (fun _ => rfl) _ _ _ _ _ _
      have hch6 : (W5.setChan c 1 (#[Value.agg #[.int .i64 x.fr, .int .i64 x.to, .string x.da]].extract 1 #[Value.agg #[.int .i64 x.fr, .int .i64 x.to, .string x.da]].size) false (s + 1) (r + 1) false).heap[c]? = some (pchan 1 (s + 1) (r + 1) #[]) := heap_setChan _ _ _ _ _ _ _ _ (Array.getElem?_eq_some_iff.1 HC5.out).1
      generalize W5.setChan c 1 (#[Value.agg #[.int .i64 x.fr, .int .i64 x.to, .string x.da]].extract 1 #[Value.agg #[.int .i64 x.fr, .int .i64 x.to, .string x.da]].size) false (s + 1) (r + 1) false = W6 at *
      have hgd : (#[Value.agg #[.int .i64 x.fr, .int .i64 x.to, .string x.da]] : Array Value).getD 0 undef = .agg #[.int .i64 x.fr, .int .i64 x.to, .string x.da] := rfl
      rw [hgd]
      have HF46 := Lib.hid (Fr.trans HF5.out hF6 (fun _ h _ => h))
      have HF47 := Lib.hid (HF46.out.alloc (.cells #[.int .i64 x.fr, .int .i64 x.to, .string x.da] 34))
      have HN7 := Lib.hid (HI4.out.net.keep HF47.out (fun k hk e => by have : k = c := e; rw [this] at hk; exact hnc hk))
      have HC6 := Lib.hid (show (W6.alloc (.cells #[.int .i64 x.fr, .int .i64 x.to, .string x.da] 34)).heap[c]? = some (pchan 1 (s + 1) (r + 1) #[]) from (Below.heap_alloc W6 _ c (Array.getElem?_eq_some_iff.1 hch6).1).trans hch6)
      have hlen : l'.length < 1000000 := by have := HLL.out; omega
      clear hF6 hch6 hgd HF5 HC5 hc35
      have HPU := Lib.hid (net_push nb base v' l' (seq + acc.length) at' x.fr x.to x.da cu (.chan (some c)) _ HN7.out (by omega) (by omega) hlen)
      clear hnc
      go_wp2
      refine wpN_of ?_
      go_wp2_with fail
      refine HPU.out.mono ?_
      rintro e w8 ⟨rfl, v3, l3, hN3, hp3, hF3, hl3⟩
      have HI8 := Lib.hid (HI4.out.pushed HSS.out HSC.out HMS.out HCW0.out HF47.out HC6.out hN3 hp3 hF3 hl3)
      clear hN3 hp3 hF3 hl3 HPU
      go_wp2
      have hce : (acc.length : Int) + 1 = ((acc ++ [(⟨x.fr, x.to, x.da, at', seq + acc.length + 1⟩ : Nd)]).length : Int) := by simp
      rw [hce]
      clear hce
      refine wpN_of ?_
      go_wp2
      refine ⟨by unfold SendLoop; exact ⟨_, _, _, _, _, _, _, _, _, _, _, _, _, _, _, _, _, _, _, _, _, _, _, _, _, _, _, _, _, _, _, _, _, _, _, _, _, _, _, _, _, _, _, _, _, _, _, _, _, _, _, _, _, _, _, _, _, _, _, _, _, _, _, _, _, _, _, _, _, _, _, _, k + 1, (acc ++ [⟨x.fr, x.to, x.da, at', seq + acc.length + 1⟩]), v3, l3, by omega, rfl, HSK2.out.symm, HI8.out⟩, by simp [intOf]; omega⟩
  · obtain rfl : k = n := by omega
    have HI1 := Lib.hid hI
    have HAC : Hid (acc = accept cut at' l.length seq ps) := Lib.hid (by rw [HACC.out, List.take_of_length_le (by have := HZ.out; omega)])
    clear hI HSN HACC
    refine wpN_seq (wpN_of ?_)
    go_wp2
    refine wpN_of ?_
    go_wp2
    refine wpN_of ?_
    go_wp2
    go_ret
    refine ⟨by rw [HAC.out]; rfl, c, v', l', ?_, by first | exact .inl rfl | exact HCC.out⟩
    rw [← HAC.out]
    exact HI1.out
end Go.Proofs.Ythdpajgnigilhaa
