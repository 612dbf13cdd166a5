/- dev: put lets a write wait. (Printed by gen-put.py.) -/
import Derived.Test.YtpoiopjggmhnjaaDoorDrain
namespace Go.Proofs.YtpoiopjggmhnjaaDoor
open Go.RowKit Go.Conc

/-- What waits: nothing, or what a channel's buffer holds. -/
def ChanI (w : World) (cv : Value) (ws : List Wr) : Prop :=
  (cv = .chan none ∧ ws = []) ∨ ∃ c cap s r, cv = .chan (some c) ∧ w.heap[c]? = some (chanOf cap s r ws) ∧ ws.length ≤ cap ∧ cap ≤ 10000

/-- Is there room in what waits? 0: yes. -/
def roomOf (db : Nat) (w : World) : Nat :=
  match w.cell? ⟨db, 6, none⟩ with
  | some (.chan (some c)) => (match w.heap[c]? with | some (.chan cap buf _ _ _ _) => if buf.size < cap then 0 else 1 | _ => 1)
  | _ => 1

structure PutI (db B : Nat) (cv0 : Value) (x : Wr) (ws : List Wr) (w : World) (cv : Value) (wr : World) : Prop where
  cell : wr.cell? ⟨db, 6, none⟩ = some cv
  frz : wr.frozen? ⟨db, 6, none⟩ = false
  chan : ChanI wr cv ws
  b0 : wr.cell? ⟨B, 0, none⟩ = some (.int .i64 x.1)
  b1 : wr.cell? ⟨B, 1, none⟩ = some (.string x.2)
  fr : Fr (fun k => k = db ∨ cv0 = .chan (some k)) w wr
  oth : Others db 6 w wr
  from' : cv = cv0 ∨ ∃ c, cv = .chan (some c) ∧ w.heap.size ≤ c

/-- What put leaves. -/
def PutPost (db : Nat) (cv0 : Value) (x : Wr) (ws : List Wr) (w : World) (e : Ending) (w' : World) : Prop :=
  e = .returned (.tuple #[]) ∧ ∃ c cap s r, w'.cell? ⟨db, 6, none⟩ = some (.chan (some c)) ∧ w'.frozen? ⟨db, 6, none⟩ = false ∧ w'.heap[c]? = some (chanOf cap s r (ws ++ [x])) ∧ (ws ++ [x]).length ≤ cap ∧ cap ≤ 10000 ∧
    (cv0 = .chan (some c) ∨ w.heap.size ≤ c) ∧ Fr (fun k => k = db ∨ cv0 = .chan (some k)) w w' ∧ Others db 6 w w'

theorem cell_setChan {w : World} {c cap : Nat} {buf : Array Value} {cl : Bool} {s r : Nat} {tm : Bool} {p : Addr} (h : p.block ≠ c) : (w.setChan c cap buf cl s r tm).cell? p = w.cell? p := World.cell?_of_block (setChan_other w c p.block cap buf cl s r tm (fun e => h e.symm))
theorem frozen_setChan {w : World} {c cap : Nat} {buf : Array Value} {cl : Bool} {s r : Nat} {tm : Bool} {p : Addr} (h : p.block ≠ c) : (w.setChan c cap buf cl s r tm).frozen? p = w.frozen? p := World.frozen?_of_block (setChan_other w c p.block cap buf cl s r tm (fun e => h e.symm))

theorem not_chan {w : World} {b o c cap s r : Nat} {ws : List Wr} {v : Value} (h : w.cell? ⟨b, o, none⟩ = some v) (hc : w.heap[c]? = some (chanOf cap s r ws)) : b ≠ c := by
  rintro rfl
  unfold World.cell? at h
  simp only at h
  rw [hc] at h
  simp [chanOf] at h

theorem add_at0 (b j : Nat) : (⟨b, 0, none⟩ : Addr).add j = ⟨b, j, none⟩ := by
  unfold Addr.add
  split
  · rename_i h; rw [h]
  · rw [Nat.zero_add]

theorem push_chan {l : List Wr} {x : Wr} : (l.map encW).toArray.push (encW x) = ((l ++ [x]).map encW).toArray := by simp

/-- drain, whatever waits. -/
theorem drain_any (db : Nat) (cv : Value) (ws : List Wr) (w : World) (hc : w.cell? ⟨db, 6, none⟩ = some cv) (hch : ChanI w cv ws) (hn : ws.length ≤ 100000) :
    Calls Tryd.prog 43 #[.pointer (some ⟨db, 0, none⟩)] w fun e w' => ∃ v, e = .returned v ∧ w'.ownsRow w.heap.size 74 2 v ws.length (rowOf wcells ws) ∧ Fr (fun k => cv = .chan (some k)) w w' ∧ ChanI w' cv [] := by
  rcases hch with ⟨rfl, rfl⟩ | ⟨c, cap, s, r, rfl, h, h1, h2⟩
  · refine (drain_nil db w hc).mono ?_
    rintro e w' ⟨rfl, rfl⟩
    exact ⟨_, rfl, World.ownsRow_nil _ _ _ _, Fr.refl _ _, .inl ⟨rfl, rfl⟩⟩
  · refine (drain_some db c cap s r ws w hc h hn).mono ?_
    rintro e w' ⟨v, rfl, hr⟩
    exact ⟨v, rfl, hr.2.1, hr.2.2.2.mono (fun i _ hi => by rw [hi]), .inr ⟨c, cap, s, _, rfl, hr.2.2.1, by simp, h2⟩⟩

theorem bytes_write : ∃ i, Tryd.prog.info? 74 = some i ∧ i.bytes = 24 := by
  obtain ⟨i0, hi0, hz0, hz1, hz2⟩ := info_parts info_write
  exact ⟨i0, hi0, hz2⟩

theorem make_chan (n : Nat) (hn : n ≤ 100000) (w : World) : (Instr.makeChan 62 (.int .i64 n)).run Tryd.prog w = .ok (.chan (some w.heap.size)) (w.alloc (chanOf n 0 0 [])) := by
  obtain ⟨i, hi, hb⟩ := bytes_write
  simpa [chanOf] using run_makeChan (P := Tryd.prog) (w := w) Tryd.underlying62 hi .i64 n (by omega) (by rw [hb]; omega)

theorem roomOf_zero {db C cap s r : Nat} {ws : List Wr} {w : World} (h : w.cell? ⟨db, 6, none⟩ = some (.chan (some C))) (hc : w.heap[C]? = some (chanOf cap s r ws)) (hr : ws.length < cap) : roomOf db w = 0 := by
  unfold roomOf
  rw [h]
  simp only [hc, chanOf]
  simp [hr]
theorem roomOf_full {db c s r : Nat} {ws : List Wr} {w : World} (h : w.cell? ⟨db, 6, none⟩ = some (.chan (some c))) (hc : w.heap[c]? = some (chanOf ws.length s r ws)) : roomOf db w = 1 := by
  unfold roomOf
  rw [h]
  simp only [hc, chanOf]
  simp
theorem roomOf_nil {db : Nat} {w : World} (h : w.cell? ⟨db, 6, none⟩ = some (.chan none)) : roomOf db w = 1 := by
  unfold roomOf
  rw [h]

/-- Behind the store of the new channel. -/
theorem put_next {db : Nat} {cv0 CV : Value} {x : Wr} {ws : List Wr} {w wr W2 w3 w4 : World} {M i : Nat} (hI : PutI db w.heap.size cv0 x ws w CV wr) (hdl : db < w.heap.size) (hBl : w.heap.size < wr.heap.size)
    (hbl : ∀ k, k < wr.heap.size → W2.heap[k]? = wr.heap[k]?) (hs2 : W2.heap.size = wr.heap.size + 1) (hos : W2.os = wr.os ∧ W2.tape = wr.tape ∧ W2.output = wr.output) (hF3 : Fr (fun k => CV = .chan (some k)) W2 w3) (hF4 : Fr (fun k => k = wr.heap.size) w3 w4)
    (hdb : CV ≠ .chan (some db)) (hB : CV ≠ .chan (some w.heap.size)) (hc4 : w4.heap[wr.heap.size]? = some (chanOf M i 0 (ws.take i))) (hi : i = ws.length) (hM : ws.length < M) (hM2 : M ≤ 10000) :
    PutI db w.heap.size cv0 x ws w (.chan (some wr.heap.size)) (w4.setCell ⟨db, 6, none⟩ (.chan (some wr.heap.size))) ∧ roomOf db (w4.setCell ⟨db, 6, none⟩ (.chan (some wr.heap.size))) = 0 := by
  have hsz := hI.fr.size
  have hs3 := hF3.size
  have blk : ∀ k, k < wr.heap.size → CV ≠ .chan (some k) → w4.heap[k]? = wr.heap[k]? := fun k hk hne =>
    (hF4.block k (by omega) (by show ¬ k = wr.heap.size; omega)).trans ((hF3.block k (by omega) hne).trans (hbl k hk))
  have bdb := blk db (by omega) hdb
  have bB := blk w.heap.size hBl hB
  have hcell4 : w4.cell? ⟨db, 6, none⟩ = some CV := (World.cell?_of_block bdb).trans hI.cell
  have hch : (w4.setCell ⟨db, 6, none⟩ (.chan (some wr.heap.size))).heap[wr.heap.size]? = some (chanOf M i 0 ws) := by
    rw [Below.heap_setCell w4 ⟨db, 6, none⟩ _ wr.heap.size (by show wr.heap.size ≠ db; omega), hc4, hi, List.take_length]
  have hcellN := cell_set_same w4 ⟨db, 6, none⟩ (.chan (some wr.heap.size)) CV hcell4
  have bother : ∀ o, (w4.setCell ⟨db, 6, none⟩ (.chan (some wr.heap.size))).cell? ⟨w.heap.size, o, none⟩ = wr.cell? ⟨w.heap.size, o, none⟩ := fun o =>
    (World.cell?_setCell_other _ _ _ _ (by intro e; injection e with e; omega)).trans (World.cell?_of_block bB)
  have hFr : Fr (fun k => k = db ∨ cv0 = .chan (some k)) w (w4.setCell ⟨db, 6, none⟩ (.chan (some wr.heap.size))) := by
    refine Fr.setCell ⟨?_, ?_, ?_, ?_, ?_⟩ (fun _ => .inl rfl) _
    · rw [hF4.os, hF3.os, hos.1, hI.fr.os]
    · rw [hF4.tape, hF3.tape, hos.2.1, hI.fr.tape]
    · rw [hF4.output, hF3.output, hos.2.2, hI.fr.output]
    · have := hF4.size; omega
    · intro k hk hS
      refine (blk k (by omega) (fun e => ?_)).trans (hI.fr.block k hk hS)
      rcases hI.from' with h | ⟨c, h, hle⟩
      · exact hS (.inr (h.symm.trans e))
      · rw [h] at e; injection e with e; injection e with e; omega
  refine ⟨⟨hcellN, (frozen_set _ _ _ _).trans ((World.frozen?_of_block bdb).trans hI.frz), .inr ⟨wr.heap.size, M, i, 0, rfl, hch, by omega, hM2⟩, (bother 0).trans hI.b0, (bother 1).trans hI.b1, hFr, ?_, .inr ⟨_, rfl, hsz⟩⟩, roomOf_zero hcellN hch hM⟩
  exact (hI.oth.trans (Others.of_block bdb)).trans (Others.set db 6 w4 _)

set_option maxHeartbeats 2000000 in
set_option maxRecDepth 100000 in
theorem put_wait (db : Nat) (cv0 : Value) (x1 : Int) (x2 : ByteArray) (ws : List Wr) (w : World) (hc : w.cell? ⟨db, 6, none⟩ = some cv0) (hf : w.frozen? ⟨db, 6, none⟩ = false) (hch : ChanI w cv0 ws) (hn : ws.length ≤ 1000) :
    Calls Tryd.prog 39 #[.pointer (some ⟨db, 0, none⟩), .agg #[.int .i64 x1, .string x2]] w (PutPost db cv0 (x1, x2) ws w) := by
  have hdl := cell_lt hc
  have HC := Lib.hid hc
  have HF := Lib.hid hf
  have HCH := Lib.hid hch
  clear hc hf hch
  refine calls_of_wpN Tryd.func39 rfl (by rintro _ ⟨h, _⟩; cases h) ?_
  simp only [Tryd.ntmps39, List.size_toArray, List.length_cons, List.length_nil, Nat.reduceAdd, Nat.reduceSub, Array.replicate_succ, Array.replicate_zero, List.push_toArray, List.append_toArray, List.nil_append, List.cons_append]
  refine wpN_seq (wpN_of ?_)
  go_wp2
  have h0 : PutI db w.heap.size cv0 (x1, x2) ws w cv0 (w.alloc (.cells #[.int .i64 x1, .string x2] 74)) := by
    have hF : Fr (fun k => k = db ∨ cv0 = .chan (some k)) w (w.alloc (.cells #[.int .i64 x1, .string x2] 74)) := (Fr.refl _ _).alloc _
    have hbl := Below.heap_alloc w (.cells #[.int .i64 x1, .string x2] 74) db hdl
    refine ⟨(World.cell?_of_block hbl).trans HC.out, (World.frozen?_of_block hbl).trans HF.out, ?_, by go_simp, by go_simp, hF, Others.of_block hbl, .inl rfl⟩
    rcases HCH.out with h | ⟨c, cap, s, r, e, h, h1, h2⟩
    · exact .inl h
    · exact .inr ⟨c, cap, s, r, e, (Below.heap_alloc w _ c (Array.getElem?_eq_some_iff.1 h).1).trans h, h1, h2⟩
  have H0 := Lib.hid h0
  clear h0
  refine wpN_block ?_
  refine wpN_loop (fun a wr => ∃ u2 u4 u5 u6 u7 u8 u9 u10 u11 u12 u13 u14 u15 u16 u17 u18 u19 u20 u21 u22 u23 u24 u25 u26 u27 u28 u29 u30 u31 u32 u33 u34 u35 u36 cv, a = { tmps := #[.pointer (some ⟨db, 0, none⟩), .agg #[.int .i64 x1, .string x2], u2, .pointer (some ⟨w.heap.size, 0, none⟩), u4, u5, u6, u7, u8, u9, u10, u11, u12, u13, u14, u15, u16, u17, u18, u19, u20, u21, u22, u23, u24, u25, u26, u27, u28, u29, u30, u31, u32, u33, u34, u35, u36], defers := [] } ∧ PutI db w.heap.size cv0 (x1, x2) ws w cv wr) (fun _ wr => roomOf db wr)
    ⟨undef, undef, undef, undef, undef, undef, undef, undef, undef, undef, undef, undef, undef, undef, undef, undef, undef, undef, undef, undef, undef, undef, undef, undef, undef, undef, undef, undef, undef, undef, undef, undef, undef, undef, cv0, rfl, H0.out⟩ ?_
  rintro a wr ⟨u2, u4, u5, u6, u7, u8, u9, u10, u11, u12, u13, u14, u15, u16, u17, u18, u19, u20, u21, u22, u23, u24, u25, u26, u27, u28, u29, u30, u31, u32, u33, u34, u35, u36, cv, rfl, hI⟩
  have hcell := hI.cell
  have hfrz := hI.frz
  have hb0 := hI.b0
  have hb1 := hI.b1
  have hsz := hI.fr.size
  have HI := Lib.hid hI
  clear hI H0 HCH
  refine wpN_block ?_
  refine wpN_seq (wpN_seq (wpN_of ?_))
  go_wp2
  refine wpN_of ?_
  go_wp2
  rcases HI.out.chan with ⟨hcv, hws⟩ | ⟨c, cap, s, r, hcv, hch, hl1, hl2⟩
  · subst hcv
    have HWS := Lib.hid hws
    clear hws
    refine wpN_seq (wpN_sel_send_nil rfl rfl zero_write ?_)
    go_wp2
    refine wpN_block ?_
    refine wpN_cond (t := false) rfl ?_
    simp only [Bool.false_eq_true, if_false]
    have hmk : ∀ w, (Instr.makeChan 62 (.int .i64 1)).run Tryd.prog w = .ok (.chan (some w.heap.size)) (w.alloc (chanOf 1 0 0 [])) := fun w => make_chan 1 (by omega) w
    have hcp : ∀ ty, (Builtin.cap_ #[62] ty #[.chan none]).run Tryd.prog wr = .ok (.int .i64 0) wr := fun ty => by simp [Builtin.cap_, run_underlying Tryd.underlying62]; rfl
    refine wpN_seq (wpN_of ?_)
    go_wp2
    clear hmk hcp
    obtain ⟨W2, hW2⟩ : ∃ W2, wr.alloc (chanOf 1 0 0 []) = W2 := ⟨_, rfl⟩
    rw [hW2]
    have hbl : ∀ k, k < wr.heap.size → W2.heap[k]? = wr.heap[k]? := fun k hk => by rw [← hW2]; exact Below.heap_alloc _ _ k hk
    have hs2 : W2.heap.size = wr.heap.size + 1 := by rw [← hW2]; simp
    have HOS : Hid (W2.os = wr.os ∧ W2.tape = wr.tape ∧ W2.output = wr.output) := Lib.hid (by rw [← hW2]; exact ⟨rfl, rfl, rfl⟩)
    have hcC : W2.heap[wr.heap.size]? = some (chanOf 1 0 0 []) := by rw [← hW2]; exact heap_alloc_new wr _
    have hdw := cell_lt hcell
    have hBw := cell_lt hb0
    have hc2 : W2.cell? ⟨db, 6, none⟩ = some (.chan none) := (World.cell?_of_block (hbl db hdw)).trans hcell
    have hch2 : ChanI W2 (.chan none) ws := by
      rcases HI.out.chan with h | ⟨c9, cap9, s9, r9, e, h, h1, h2⟩
      · exact .inl h
      · exact .inr ⟨c9, cap9, s9, r9, e, (hbl c9 (Array.getElem?_eq_some_iff.1 h).1).trans h, h1, h2⟩
    have hCne : ∀ k, Value.chan none = .chan (some k) → k < wr.heap.size := by
      intro k hk
      rcases HI.out.chan with ⟨e, _⟩ | ⟨c9, cap9, s9, r9, e, h, _⟩
      · rw [e] at hk; cases hk
      · rw [e] at hk; injection hk with hk; injection hk with hk; subst hk; exact (Array.getElem?_eq_some_iff.1 h).1
    have hcvdb : Value.chan none ≠ .chan (some db) := by
      intro hk
      rcases HI.out.chan with ⟨e, _⟩ | ⟨c9, cap9, s9, r9, e, h, _⟩
      · rw [e] at hk; cases hk
      · rw [e] at hk; injection hk with hk; injection hk with hk; subst hk; exact not_chan hcell h rfl
    have hcvB : Value.chan none ≠ .chan (some w.heap.size) := by
      intro hk
      rcases HI.out.chan with ⟨e, _⟩ | ⟨c9, cap9, s9, r9, e, h, _⟩
      · rw [e] at hk; cases hk
      · rw [e] at hk; injection hk with hk; injection hk with hk; subst hk; exact not_chan hb0 h rfl
    have HDR := Lib.hid (drain_any db (.chan none) ws W2 hc2 hch2 (by omega))
    have HBL := Lib.hid hbl
    have HCC := Lib.hid hcC
    have HCN := Lib.hid hCne
    have HDB := Lib.hid hcvdb
    have HBB := Lib.hid hcvB
    have HS2 := Lib.hid hs2
    clear hW2 hbl hcC hch2 hCne hcvdb hcvB hs2
    refine wpN_seq (wpN_seq (wpN_of ?_))
    go_wp2_with fail
    refine HDR.out.mono ?_
    rintro e w3 ⟨v3, rfl, ho, hF3, _⟩
    obtain ⟨p3, c3, rfl⟩ := owns_slice ho
    have HO3 := Lib.hid ho
    have HF3 := Lib.hid hF3
    clear ho hF3 HDR
    have h3c : w3.cell? ⟨db, 6, none⟩ = some (.chan none) := (HF3.out.cell (p := ⟨db, 6, none⟩) (by show db < _; rw [HS2.out]; omega) HDB.out).trans hc2
    have h3f : w3.frozen? ⟨db, 6, none⟩ = false := (HF3.out.frozen (p := ⟨db, 6, none⟩) (by show db < _; rw [HS2.out]; omega) HDB.out).trans ((World.frozen?_of_block (HBL.out db hdw)).trans hfrz)
    have H3C : Hid (w3.heap[wr.heap.size]? = some (chanOf 1 0 0 [])) := (HF3.out.block wr.heap.size (by rw [HS2.out]; omega) (fun e => by have := HCN.out _ e; omega)).trans HCC.out
    go_wp2
    refine wpN_block ?_
    refine wpN_loop (fun a w4 => ∃ u2 u5 u6 u7 u8 u9 u10 u11 u12 u13 u14 u15 u16 u17 u18 u19 u20 u21 u22 u23 u27 u28 u29 u30 u31 u32 u33 u34 u35 u36 i, a = { tmps := #[.pointer (some ⟨db, 0, none⟩), .agg #[.int .i64 x1, .string x2], u2, .pointer (some ⟨w.heap.size, 0, none⟩), .chan (some wr.heap.size), u5, u6, u7, u8, u9, u10, u11, u12, u13, u14, u15, u16, u17, u18, u19, u20, u21, u22, u23, .slice p3 ws.length c3, .int .i64 ws.length, .int .i64 (i : Nat), u27, u28, u29, u30, u31, u32, u33, u34, u35, u36], defers := [] } ∧ i ≤ ws.length ∧ w4.heap[wr.heap.size]? = some (chanOf 1 i 0 (ws.take i)) ∧ Fr (fun k => k = wr.heap.size) w3 w4) (fun _ w4 => ws.length - chanLen w4 wr.heap.size)
      ⟨_, _, _, _, _, _, _, _, _, _, _, _, _, _, _, _, _, _, _, _, _, _, _, _, _, _, _, _, _, _, 0, rfl, by omega, by simpa using H3C.out, Fr.refl _ _⟩ ?_
    rintro a w4 ⟨u2, u5, u6, u7, u8, u9, u10, u11, u12, u13, u14, u15, u16, u17, u18, u19, u20, u21, u22, u23, u27, u28, u29, u30, u31, u32, u33, u34, u35, u36, i, rfl, hi, hch4, hF4⟩
    have HC4 := Lib.hid hch4
    have HF4 := Lib.hid hF4
    clear hch4 hF4
    refine wpN_seq (wpN_of ?_)
    by_cases hlt : i < ws.length
    · go_wp2
      refine wpN_seq (wpN_of ?_)
      go_wp2
      obtain ⟨g, cp, hv, hgb, hgl, _⟩ := owns_len HO3.out (by omega)
      injection hv with hv1 _ hv2
      subst hv1 hv2
      have hg4 : ∀ j u, (rowOf wcells ws)[j]? = some u → w4.cell? ⟨g, j, none⟩ = some u := fun j u hu => (HF4.out.cell (p := ⟨g, j, none⟩) hgl (by show ¬ g = wr.heap.size; have := HS2.out; omega)).trans (by have e := HO3.out.cells (g := g) rfl j u hu; rw [add_at0] at e; exact e)
      have hr0 := rowOf_at wcells wcells_length ws i 0 hlt (by omega)
      have hr1 := rowOf_at wcells wcells_length ws i 1 hlt (by omega)
      generalize hxx : ws.getD i default = xi at hr0 hr1
      have hcx0 := hg4 _ _ hr0
      have hcx1 := hg4 _ _ hr1
      rw [Nat.add_zero] at hcx0
      have HXX := Lib.hid hxx
      clear hg4 hr0 hr1 hxx
      obtain ⟨y1, y2⟩ := xi
      have hl4 := HF4.out.size
      refine wpN_seq (wpN_block (wpN_seq (wpN_of ?_)))
      go_wp2
      have hC5 : (w4.alloc (.cells #[.int .i64 y1, .string y2] 74)).heap[wr.heap.size]? = some (chanOf 1 i 0 (ws.take i)) := (Below.heap_alloc w4 _ wr.heap.size (Array.getElem?_eq_some_iff.1 HC4.out).1).trans HC4.out
      have HC5 := Lib.hid hC5
      clear hC5
      refine wpN_send (c := wr.heap.size) (v := .agg #[.int .i64 y1, .string y2]) (z := .tuple #[]) (v0 := .chan (some wr.heap.size)) (v1 := .agg #[.int .i64 y1, .string y2]) rfl rfl rfl ?_ ?_ ?_ HC5.out ?_ ?_
      · go_simp
      · go_simp
      · simp [go_sem, execOp, scase, Act.eval]
      · exfalso; have e := HWS.out; rw [e] at hlt; simp at hlt
      · obtain ⟨W6, hW6⟩ : ∃ W6, (w4.alloc (.cells #[.int .i64 y1, .string y2] 74)).setChan wr.heap.size 1 (((ws.take i).map encW).toArray.push (.agg #[.int .i64 y1, .string y2])) false (i + 1) 0 false = W6 := ⟨_, rfl⟩
        rw [hW6]
        have hF6 : Fr (fun k => k = wr.heap.size) w3 W6 := by rw [← hW6]; exact (HF4.out.alloc _).setChan (fun _ => rfl) _ _ _ _ _ _
        have hC6 : W6.heap[wr.heap.size]? = some (chanOf 1 (i + 1) 0 (ws.take (i + 1))) := by
          rw [← hW6, heap_setChan _ _ _ _ _ _ _ _ (Array.getElem?_eq_some_iff.1 HC5.out).1]
          have e : ws.take (i + 1) = ws.take i ++ [(y1, y2)] := by
            rw [List.take_add_one]
            congr 1
            have h1 := HXX.out
            rw [List.getD_eq_getElem?_getD, List.getElem?_eq_getElem hlt] at h1
            rw [List.getElem?_eq_getElem hlt]
            simpa using h1
          rw [e]
          simp [chanOf, encW]
        have HF6 := Lib.hid hF6
        have HC6 := Lib.hid hC6
        clear hF6 hC6 hW6
        refine wpN_of ?_
        go_wp2
        refine ⟨⟨_, _, _, _, _, _, _, _, _, _, _, _, _, _, _, _, _, _, _, _, _, _, _, _, _, _, _, _, _, _, i + 1, rfl, by omega, HC6.out, HF6.out⟩, ?_⟩
        rw [chanLen_of HC6.out, chanLen_of HC4.out, List.length_take, List.length_take]
        omega
    · go_wp2
      refine wpN_seq (wpN_of ?_)
      go_wp2
      have hN := put_next HI.out hdl hBw HBL.out HS2.out HOS.out HF3.out HF4.out HDB.out HBB.out HC4.out (by omega) (by have e := HWS.out; rw [e]; simp) (by omega)
      have HN := Lib.hid hN
      clear hN
      have hd4 : w4.heap[db]? = wr.heap[db]? := (HF4.out.block db (by have := HF3.out.size; have := HS2.out; omega) (by show ¬ db = wr.heap.size; omega)).trans ((HF3.out.block db (by have := HS2.out; omega) HDB.out).trans (HBL.out db hdw))
      have hc4 := (World.cell?_of_block (a := ⟨db, 6, none⟩) hd4).trans hcell
      have hf4 := (World.frozen?_of_block (a := ⟨db, 6, none⟩) hd4).trans hfrz
      clear hd4
      have HRM := Lib.hid (roomOf_nil hcell)
      refine wpN_of ?_
      go_wp2
      exact ⟨⟨⟨_, _, _, _, _, _, _, _, _, _, _, _, _, _, _, _, _, _, _, _, _, _, _, _, _, _, _, _, _, _, _, _, _, _, rfl⟩, _, HN.out.1⟩, by rw [HN.out.2, HRM.out]; omega⟩
  · subst hcv
    have hne : db ≠ c := not_chan hcell hch
    have hneB : w.heap.size ≠ c := not_chan hb0 hch
    by_cases hroom : ws.length < cap
    · have HCH := Lib.hid hch
      clear hch
      refine wpN_seq (wpN_sel_send (v := encW (x1, x2)) rfl rfl zero_write HCH.out (by simpa using hroom) ?_)
      go_wp2
      refine wpN_block ?_
      refine wpN_cond (t := true) rfl ?_
      refine wpN_of ?_
      go_wp2
      refine bodyPost_ret (results_none rfl _ _ _) rfl ?_
      have hcl : c < wr.heap.size := (Array.getElem?_eq_some_iff.1 HCH.out).1
      refine ⟨rfl, c, cap, s + 1, r, (cell_setChan hne).trans hcell, (frozen_setChan hne).trans hfrz, ?_, by simp; omega, hl2, ?_, ?_, ?_⟩
      · rw [show (List.map encW ws ++ [encW (x1, x2)]).toArray = ((ws ++ [(x1, x2)]).map encW).toArray by simp]; exact heap_setChan _ _ _ _ _ _ _ _ hcl
      · rcases HI.out.from' with e | ⟨c', e, hle⟩
        · exact .inl e.symm
        · injection e with e; injection e with e; subst e; exact .inr hle
      · refine HI.out.fr.setChan (fun hlt => ?_) _ _ _ _ _ _
        rcases HI.out.from' with e | ⟨c', e, hle⟩
        · exact .inr e.symm
        · injection e with e; injection e with e; subst e; omega
      · exact HI.out.oth.trans (Others.of_block (setChan_other wr c db _ _ _ _ _ _ (fun e => hne e.symm)))
    · obtain rfl : cap = ws.length := by omega
      have HCH := Lib.hid hch
      clear hch
      refine wpN_seq (wpN_sel_send_full (v := encW (x1, x2)) rfl rfl zero_write HCH.out (by simp) ?_)
      go_wp2
      refine wpN_block ?_
      refine wpN_cond (t := false) rfl ?_
      simp only [Bool.false_eq_true, if_false]
      have hmk : ∀ w, (Instr.makeChan 62 (.int .i64 (2 * (ws.length : Int) + 1))).run Tryd.prog w = .ok (.chan (some w.heap.size)) (w.alloc (chanOf (2 * ws.length + 1) 0 0 [])) := fun w => by
        have := make_chan (2 * ws.length + 1) (by omega) w
        simpa using this
      have hcp : ∀ ty, (Builtin.cap_ #[62] ty #[.chan (some c)]).run Tryd.prog wr = .ok (.int .i64 ws.length) wr := fun ty => run_cap_chan (P := Tryd.prog) 62 ty Tryd.underlying62 HCH.out
      have e1 : IntKind.i64.wrap (2 * (ws.length : Int)) = 2 * (ws.length : Int) := IntWalk.i64_in _ ⟨by omega, by omega⟩
      have e2 : IntKind.i64.wrap (2 * (ws.length : Int) + 1) = 2 * (ws.length : Int) + 1 := IntWalk.i64_in _ ⟨by omega, by omega⟩
      refine wpN_seq (wpN_of ?_)
      go_wp2
      clear hmk hcp e1 e2
      obtain ⟨W2, hW2⟩ : ∃ W2, wr.alloc (chanOf (2 * ws.length + 1) 0 0 []) = W2 := ⟨_, rfl⟩
      rw [hW2]
      have hbl : ∀ k, k < wr.heap.size → W2.heap[k]? = wr.heap[k]? := fun k hk => by rw [← hW2]; exact Below.heap_alloc _ _ k hk
      have hs2 : W2.heap.size = wr.heap.size + 1 := by rw [← hW2]; simp
      have HOS : Hid (W2.os = wr.os ∧ W2.tape = wr.tape ∧ W2.output = wr.output) := Lib.hid (by rw [← hW2]; exact ⟨rfl, rfl, rfl⟩)
      have hcC : W2.heap[wr.heap.size]? = some (chanOf (2 * ws.length + 1) 0 0 []) := by rw [← hW2]; exact heap_alloc_new wr _
      have hdw := cell_lt hcell
      have hBw := cell_lt hb0
      have hc2 : W2.cell? ⟨db, 6, none⟩ = some (.chan (some c)) := (World.cell?_of_block (hbl db hdw)).trans hcell
      have hch2 : ChanI W2 (.chan (some c)) ws := by
        rcases HI.out.chan with h | ⟨c9, cap9, s9, r9, e, h, h1, h2⟩
        · exact .inl h
        · exact .inr ⟨c9, cap9, s9, r9, e, (hbl c9 (Array.getElem?_eq_some_iff.1 h).1).trans h, h1, h2⟩
      have hCne : ∀ k, Value.chan (some c) = .chan (some k) → k < wr.heap.size := by
        intro k hk
        rcases HI.out.chan with ⟨e, _⟩ | ⟨c9, cap9, s9, r9, e, h, _⟩
        · rw [e] at hk; cases hk
        · rw [e] at hk; injection hk with hk; injection hk with hk; subst hk; exact (Array.getElem?_eq_some_iff.1 h).1
      have hcvdb : Value.chan (some c) ≠ .chan (some db) := by
        intro hk
        rcases HI.out.chan with ⟨e, _⟩ | ⟨c9, cap9, s9, r9, e, h, _⟩
        · rw [e] at hk; cases hk
        · rw [e] at hk; injection hk with hk; injection hk with hk; subst hk; exact not_chan hcell h rfl
      have hcvB : Value.chan (some c) ≠ .chan (some w.heap.size) := by
        intro hk
        rcases HI.out.chan with ⟨e, _⟩ | ⟨c9, cap9, s9, r9, e, h, _⟩
        · rw [e] at hk; cases hk
        · rw [e] at hk; injection hk with hk; injection hk with hk; subst hk; exact not_chan hb0 h rfl
      have HDR := Lib.hid (drain_any db (.chan (some c)) ws W2 hc2 hch2 (by omega))
      have HBL := Lib.hid hbl
      have HCC := Lib.hid hcC
      have HCN := Lib.hid hCne
      have HDB := Lib.hid hcvdb
      have HBB := Lib.hid hcvB
      have HS2 := Lib.hid hs2
      clear hW2 hbl hcC hch2 hCne hcvdb hcvB hs2
      refine wpN_seq (wpN_seq (wpN_of ?_))
      go_wp2_with fail
      refine HDR.out.mono ?_
      rintro e w3 ⟨v3, rfl, ho, hF3, _⟩
      obtain ⟨p3, c3, rfl⟩ := owns_slice ho
      have HO3 := Lib.hid ho
      have HF3 := Lib.hid hF3
      clear ho hF3 HDR
      have h3c : w3.cell? ⟨db, 6, none⟩ = some (.chan (some c)) := (HF3.out.cell (p := ⟨db, 6, none⟩) (by show db < _; rw [HS2.out]; omega) HDB.out).trans hc2
      have h3f : w3.frozen? ⟨db, 6, none⟩ = false := (HF3.out.frozen (p := ⟨db, 6, none⟩) (by show db < _; rw [HS2.out]; omega) HDB.out).trans ((World.frozen?_of_block (HBL.out db hdw)).trans hfrz)
      have H3C : Hid (w3.heap[wr.heap.size]? = some (chanOf (2 * ws.length + 1) 0 0 [])) := (HF3.out.block wr.heap.size (by rw [HS2.out]; omega) (fun e => by have := HCN.out _ e; omega)).trans HCC.out
      go_wp2
      refine wpN_block ?_
      refine wpN_loop (fun a w4 => ∃ u2 u5 u6 u7 u8 u9 u10 u11 u12 u13 u14 u15 u16 u17 u18 u19 u20 u21 u22 u23 u27 u28 u29 u30 u31 u32 u33 u34 u35 u36 i, a = { tmps := #[.pointer (some ⟨db, 0, none⟩), .agg #[.int .i64 x1, .string x2], u2, .pointer (some ⟨w.heap.size, 0, none⟩), .chan (some wr.heap.size), u5, u6, u7, u8, u9, u10, u11, u12, u13, u14, u15, u16, u17, u18, u19, u20, u21, u22, u23, .slice p3 ws.length c3, .int .i64 ws.length, .int .i64 (i : Nat), u27, u28, u29, u30, u31, u32, u33, u34, u35, u36], defers := [] } ∧ i ≤ ws.length ∧ w4.heap[wr.heap.size]? = some (chanOf (2 * ws.length + 1) i 0 (ws.take i)) ∧ Fr (fun k => k = wr.heap.size) w3 w4) (fun _ w4 => ws.length - chanLen w4 wr.heap.size)
        ⟨_, _, _, _, _, _, _, _, _, _, _, _, _, _, _, _, _, _, _, _, _, _, _, _, _, _, _, _, _, _, 0, rfl, by omega, by simpa using H3C.out, Fr.refl _ _⟩ ?_
      rintro a w4 ⟨u2, u5, u6, u7, u8, u9, u10, u11, u12, u13, u14, u15, u16, u17, u18, u19, u20, u21, u22, u23, u27, u28, u29, u30, u31, u32, u33, u34, u35, u36, i, rfl, hi, hch4, hF4⟩
      have HC4 := Lib.hid hch4
      have HF4 := Lib.hid hF4
      clear hch4 hF4
      refine wpN_seq (wpN_of ?_)
      by_cases hlt : i < ws.length
      · go_wp2
        refine wpN_seq (wpN_of ?_)
        go_wp2
        obtain ⟨g, cp, hv, hgb, hgl, _⟩ := owns_len HO3.out (by omega)
        injection hv with hv1 _ hv2
        subst hv1 hv2
        have hg4 : ∀ j u, (rowOf wcells ws)[j]? = some u → w4.cell? ⟨g, j, none⟩ = some u := fun j u hu => (HF4.out.cell (p := ⟨g, j, none⟩) hgl (by show ¬ g = wr.heap.size; have := HS2.out; omega)).trans (by have e := HO3.out.cells (g := g) rfl j u hu; rw [add_at0] at e; exact e)
        have hr0 := rowOf_at wcells wcells_length ws i 0 hlt (by omega)
        have hr1 := rowOf_at wcells wcells_length ws i 1 hlt (by omega)
        generalize hxx : ws.getD i default = xi at hr0 hr1
        have hcx0 := hg4 _ _ hr0
        have hcx1 := hg4 _ _ hr1
        rw [Nat.add_zero] at hcx0
        have HXX := Lib.hid hxx
        clear hg4 hr0 hr1 hxx
        obtain ⟨y1, y2⟩ := xi
        have hl4 := HF4.out.size
        refine wpN_seq (wpN_block (wpN_seq (wpN_of ?_)))
        go_wp2
        have hC5 : (w4.alloc (.cells #[.int .i64 y1, .string y2] 74)).heap[wr.heap.size]? = some (chanOf (2 * ws.length + 1) i 0 (ws.take i)) := (Below.heap_alloc w4 _ wr.heap.size (Array.getElem?_eq_some_iff.1 HC4.out).1).trans HC4.out
        have HC5 := Lib.hid hC5
        clear hC5
        refine wpN_send (c := wr.heap.size) (v := .agg #[.int .i64 y1, .string y2]) (z := .tuple #[]) (v0 := .chan (some wr.heap.size)) (v1 := .agg #[.int .i64 y1, .string y2]) rfl rfl rfl ?_ ?_ ?_ HC5.out ?_ ?_
        · go_simp
        · go_simp
        · simp [go_sem, execOp, scase, Act.eval]
        · simp; omega
        · obtain ⟨W6, hW6⟩ : ∃ W6, (w4.alloc (.cells #[.int .i64 y1, .string y2] 74)).setChan wr.heap.size (2 * ws.length + 1) (((ws.take i).map encW).toArray.push (.agg #[.int .i64 y1, .string y2])) false (i + 1) 0 false = W6 := ⟨_, rfl⟩
          rw [hW6]
          have hF6 : Fr (fun k => k = wr.heap.size) w3 W6 := by rw [← hW6]; exact (HF4.out.alloc _).setChan (fun _ => rfl) _ _ _ _ _ _
          have hC6 : W6.heap[wr.heap.size]? = some (chanOf (2 * ws.length + 1) (i + 1) 0 (ws.take (i + 1))) := by
            rw [← hW6, heap_setChan _ _ _ _ _ _ _ _ (Array.getElem?_eq_some_iff.1 HC5.out).1]
            have e : ws.take (i + 1) = ws.take i ++ [(y1, y2)] := by
              rw [List.take_add_one]
              congr 1
              have h1 := HXX.out
              rw [List.getD_eq_getElem?_getD, List.getElem?_eq_getElem hlt] at h1
              rw [List.getElem?_eq_getElem hlt]
              simpa using h1
            rw [e]
            simp [chanOf, encW]
          have HF6 := Lib.hid hF6
          have HC6 := Lib.hid hC6
          clear hF6 hC6 hW6
          refine wpN_of ?_
          go_wp2
          refine ⟨⟨_, _, _, _, _, _, _, _, _, _, _, _, _, _, _, _, _, _, _, _, _, _, _, _, _, _, _, _, _, _, i + 1, rfl, by omega, HC6.out, HF6.out⟩, ?_⟩
          rw [chanLen_of HC6.out, chanLen_of HC4.out, List.length_take, List.length_take]
          omega
      · go_wp2
        refine wpN_seq (wpN_of ?_)
        go_wp2
        have hN := put_next HI.out hdl hBw HBL.out HS2.out HOS.out HF3.out HF4.out HDB.out HBB.out HC4.out (by omega) (by omega) (by omega)
        have HN := Lib.hid hN
        clear hN
        have hd4 : w4.heap[db]? = wr.heap[db]? := (HF4.out.block db (by have := HF3.out.size; have := HS2.out; omega) (by show ¬ db = wr.heap.size; omega)).trans ((HF3.out.block db (by have := HS2.out; omega) HDB.out).trans (HBL.out db hdw))
        have hc4 := (World.cell?_of_block (a := ⟨db, 6, none⟩) hd4).trans hcell
        have hf4 := (World.frozen?_of_block (a := ⟨db, 6, none⟩) hd4).trans hfrz
        clear hd4
        have HRM := Lib.hid (roomOf_full hcell HCH.out)
        refine wpN_of ?_
        go_wp2
        exact ⟨⟨⟨_, _, _, _, _, _, _, _, _, _, _, _, _, _, _, _, _, _, _, _, _, _, _, _, _, _, _, _, _, _, _, _, _, _, rfl⟩, _, HN.out.1⟩, by rw [HN.out.2, HRM.out]; omega⟩
end Go.Proofs.YtpoiopjggmhnjaaDoor
