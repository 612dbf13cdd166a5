/- read's Queue: New, Add, Len. -/
import Derived.Test.YtjpmebfegpmccaaGreatReadsH
import Derived.Test.YtjpmebfegpmccaaGreatInts
namespace Go.Proofs.YtjpmebfegpmccaaGreat
open Go.RowKit

/-- A read: what, index, round. -/
abbrev Rd := Int × Int × Int
abbrev rv (x : Rd) : Value := .agg #[.int .i64 x.1, .int .i64 x.2.1, .int .i64 x.2.2]
def rcells (x : Rd) : List Value := [.int .i64 x.1, .int .i64 x.2.1, .int .i64 x.2.2]
theorem rcells_length (x : Rd) : (rcells x).length = 3 := rfl
/-- A read and its number. -/
def wt (x : Rd) (s : Int) : Wt := (x.1, x.2.1, x.2.2, s)

theorem RdG.read {w : World} {B n : Nat} {p : Option Addr} {zs : List Rd} (h : RdG rcells w B p n zs) (k : Nat) (hk : k < n) :
    ∃ b o, p = some ⟨b, o, none⟩ ∧ b < B ∧ w.cell? ⟨b, o + k * 3, none⟩ = some (.int .i64 (HL.el zs k).1) ∧ w.cell? ⟨b, o + k * 3 + 1, none⟩ = some (.int .i64 (HL.el zs k).2.1) ∧ w.cell? ⟨b, o + k * 3 + 2, none⟩ = some (.int .i64 (HL.el zs k).2.2) := by
  obtain ⟨b, o, e, hb, hc⟩ := h.2 (by omega)
  have hz := h.1
  have r0 := rowOf_at rcells rcells_length zs k 0 (by omega) (by omega)
  have r1 := rowOf_at rcells rcells_length zs k 1 (by omega) (by omega)
  have r2 := rowOf_at rcells rcells_length zs k 2 (by omega) (by omega)
  exact ⟨b, o, e, hb, hc _ _ r0, hc _ _ r1, hc _ _ r2⟩

/-- Block qb is a Queue that has l, a heap, and has counted to seq. -/
def QueueI (qb base : Nat) (v : Value) (l : List Wt) (seq : Int) (w : World) : Prop :=
  ReadsI qb 0 base v l w ∧ w.cell? ⟨qb, 1, none⟩ = some (.int .i64 seq) ∧ w.frozen? ⟨qb, 1, none⟩ = false ∧ HL.IsHeap wlt l

def queueF (qb : Nat) (v : Value) : Nat → Prop := fun k => k = qb ∨ v.ownBlock = some k

theorem QueueI.keep {qb base : Nat} {v : Value} {l : List Wt} {seq : Int} {w w' : World} (h : QueueI qb base v l seq w) {S : Nat → Prop} (hf : Fr S w w') (hS : ∀ k, queueF qb v k → ¬ S k) : QueueI qb base v l seq w' := by
  obtain ⟨a, b, c, d⟩ := h
  have hlt := cell_lt b
  have h1 : ¬ S qb := hS qb (.inl rfl)
  exact ⟨a.keep hf h1 (fun g hg => hS g (.inr hg)), (hf.cell hlt h1).trans b, (hf.frozen hlt h1).trans c, d⟩

theorem QueueI.below {qb base : Nat} {v : Value} {l : List Wt} {seq : Int} {w w' : World} (h : QueueI qb base v l seq w) (hb : Below w.heap.size w w') : QueueI qb base v l seq w' :=
  h.keep (Fr.of_all (S := fun _ => False) hb) (fun _ _ h => h)

theorem QueueI.ge {qb base : Nat} {v : Value} {l : List Wt} {seq : Int} {w : World} (h : QueueI qb base v l seq w) (hb : base ≤ qb) : ∀ k, queueF qb v k → base ≤ k := by
  rintro k (rfl | hk)
  · exact hb
  · exact (h.1.2.2.1.lt k hk).1

theorem QueueI.lt {qb base : Nat} {v : Value} {l : List Wt} {seq : Int} {w : World} (h : QueueI qb base v l seq w) : ∀ k, queueF qb v k → k < w.heap.size := by
  rintro k (rfl | hk)
  · exact cell_lt h.1.1
  · exact (h.1.2.2.1.lt k hk).2

set_option maxRecDepth 100000 in
theorem queue_new (w : World) :
    Calls Tryz.prog 5 #[] w fun e w' => e = .returned (.pointer (some ⟨w.heap.size, 0, none⟩)) ∧ QueueI w.heap.size w.heap.size (.slice none 0 0) [] 0 w' ∧ Below w.heap.size w w' := by
  go_enter Tryz.func5, Tryz.ntmps5
  go_wp2
  go_ret
  refine ⟨rfl, ⟨⟨by go_simp, by go_simp, World.ownsRow_nil _ _ _ _, by simp [Value.ownBlock], by simp, by simp⟩, by go_simp, by go_simp, HL.isHeap_nil⟩, (Below.refl _ _).alloc (Nat.le_refl _) _⟩

set_option maxHeartbeats 400000 in
set_option maxRecDepth 100000 in
theorem queue_len (qb base : Nat) (v : Value) (l : List Wt) (seq : Int) (w : World) (h : QueueI qb base v l seq w) :
    Calls Tryz.prog 14 #[.pointer (some ⟨qb, 0, none⟩)] w fun e w' => e = .returned (.int .i64 l.length) ∧ w = w' := by
  obtain ⟨p, c, hv⟩ := owns_slice h.1.2.2.1
  have hc := h.1.1
  rw [hv] at hc
  clear h hv
  generalize l.length = n at *
  go_enter Tryz.func14, Tryz.ntmps14
  go_wp2
  go_ret
  exact ⟨rfl, rfl⟩

theorem QueueI.seq_set {qb base : Nat} {v : Value} {l : List Wt} {seq : Int} {w : World} (h : QueueI qb base v l seq w) (s' : Int) :
    QueueI qb base v l s' (w.setCell ⟨qb, 1, none⟩ (.int .i64 s')) ∧ Fr (queueF qb v) w (w.setCell ⟨qb, 1, none⟩ (.int .i64 s')) := by
  obtain ⟨⟨a1, a2, a3, a4, a5, a6⟩, b, c, d⟩ := h
  have hF : Fr (fun k => k = qb) w (w.setCell ⟨qb, 1, none⟩ (.int .i64 s')) := (Fr.refl (fun k => k = qb) w).setCell (p := ⟨qb, 1, none⟩) (fun _ => rfl) _
  refine ⟨⟨⟨?_, by rw [frozen_set]; exact a2, hF.owns a3 (fun g hg e => a4 (by rw [hg, e])), a4, a5, Nat.le_trans a6 hF.size⟩, cell_set_same _ _ _ _ b, by rw [frozen_set]; exact c, d⟩, hF.mono (fun i _ hi => .inl hi)⟩
  rw [World.cell?_setCell_other _ _ _ _ (by simp)]
  exact a1

/-- The reads as Add numbers them. -/
def numbered (zs : List Rd) (s : Int) (k : Nat) : List Wt := (List.range k).map fun i => wt (HL.el zs i) (s + 1 + i)
theorem numbered_succ (zs : List Rd) (s : Int) (k : Nat) : numbered zs s (k + 1) = numbered zs s k ++ [wt (HL.el zs k) (s + 1 + k)] := by simp [numbered, List.range_succ]
theorem numbered_length (zs : List Rd) (s : Int) (k : Nat) : (numbered zs s k).length = k := by simp [numbered]

/-- What holds as Add goes on. -/
def AddRel (qb base : Nat) (v0 : Value) (l0 : List Wt) (seq : Int) (zs : List Rd) (w : World) (k : Nat) (wr : World) : Prop :=
  ∃ v l, QueueI qb base v l (seq + k) wr ∧ l.Perm (l0 ++ numbered zs seq k) ∧ Fr (queueF qb v0) w wr ∧ (∀ g, v.ownBlock = some g → Lies v0 g w.heap.size)

set_option maxHeartbeats 1000000 in
set_option maxRecDepth 100000 in
theorem queue_add (qb base : Nat) (v : Value) (l : List Wt) (seq : Int) (zs : List Rd) (p : Option Addr) (n c : Nat) (w : World) (h : QueueI qb base v l seq w) (hz : RdG rcells w w.heap.size p n zs)
    (hS : ∀ b o, p = some ⟨b, o, none⟩ → 0 < n → ¬ queueF qb v b) (hn : l.length + n < 1000000) (hs0 : 0 ≤ seq) (hs : seq + n ≤ 1000000) :
    Calls Tryz.prog 6 #[.pointer (some ⟨qb, 0, none⟩), .slice p n c] w fun e w' => e = .returned (.tuple #[]) ∧
      ∃ v' l', QueueI qb base v' l' (seq + n) w' ∧ l'.Perm (l ++ numbered zs seq n) ∧ Fr (queueF qb v) w w' ∧ (∀ g, v'.ownBlock = some g → Lies v g w.heap.size) := by
  have hst : AddRel qb base v l seq zs w 0 w := ⟨v, l, by simpa using h, by simp [numbered], Fr.refl _ _, fun g hg => .inl hg⟩
  have HST := Lib.hid hst; clear hst h
  have HZ := Lib.hid hz; clear hz
  have HS := Lib.hid hS; clear hS
  go_enter Tryz.func6, Tryz.ntmps6
  go_wp2
  go_loopw [5, 10] (fun _ iv wr => ∃ k : Nat, k ≤ n ∧ iv = .int .i64 k ∧ AddRel qb base v l seq zs w k wr) (fun _ iv _ => n - (intOf iv).toNat)
  case atStart => exact ⟨0, Nat.zero_le _, rfl, HST.out⟩
  case round =>
    clear HST
    obtain ⟨k, hk, rfl, v1, l1, hI, hp, hF, hL⟩ := hrel
    have hlen : l1.length ≤ l.length + k := by rw [hp.length_eq, List.length_append, numbered_length]; omega
    have HL1 := Lib.hid hL; clear hL
    have HP1 := Lib.hid hp; clear hp
    by_cases hlt : k < n
    · obtain ⟨b, o, e, hb, hc0, hc1, hc2⟩ := HZ.out.read k hlt
      have hnb := HS.out b o e (by omega)
      have q0 := (hF.cell (p := ⟨b, o + k * 3, none⟩) hb hnb).trans hc0
      have q1 := (hF.cell (p := ⟨b, o + k * 3 + 1, none⟩) hb hnb).trans hc1
      have q2 := (hF.cell (p := ⟨b, o + k * 3 + 2, none⟩) hb hnb).trans hc2
      clear hc0 hc1 hc2 hnb
      subst e
      have hbw : b < wr.heap.size := Nat.lt_of_lt_of_le hb hF.size
      have hqs := hI.2.1
      have hqf := hI.2.2.1
      have hql := cell_lt hqs
      have HI := Lib.hid hI
      have HF := Lib.hid hF
      clear hI hF
      have HNS := Lib.hid (numbered_succ zs seq k)
      generalize hx : HL.el zs k = x at *
      have HX := Lib.hid hx; clear hx
      obtain ⟨x0, x1, x2⟩ := x
      go_wp2_with fail
      refine region_tail 11 (by kernel_rfl) (by kernel_rfl) (fun V => (V.cell? ⟨wr.heap.size, 0, none⟩ = some (.int .i64 x0) ∧ V.cell? ⟨wr.heap.size, 1, none⟩ = some (.int .i64 x1) ∧ V.cell? ⟨wr.heap.size, 2, none⟩ = some (.int .i64 x2) ∧ V.cell? ⟨qb, 1, none⟩ = some (.int .i64 (seq + ↑k + 1))) ∧ Hid (QueueI qb base v1 l1 (seq + ↑k + 1) V) ∧ Hid (Fr (queueF qb v1) wr V))
        ⟨⟨by go_simp, by go_simp, by go_simp, ?_⟩, ((HI.out.seq_set _).1.keep ((Fr.refl (fun _ => False) _).alloc _).drew (fun _ _ h => h)), (((HI.out.seq_set _).2.alloc _).drew)⟩ ?_
      · exact ((HI.out.seq_set _).1.keep ((Fr.refl (fun _ => False) _).alloc _).drew (fun _ _ h => h)).2.1
      rintro V ⟨⟨c0, c1, c2, c3⟩, HV, HFV⟩
      simp only [List.take_succ_cons, List.take_zero, List.drop_succ_cons, List.drop_zero]
      iterate 11 still_step
      refine wpStill_nil ?_
      go_wp2_with fail
      have hl1 : l1.length < 1000000 := by omega
      have hpu := heap_push_reads qb 0 base v1 l1 (x0, x1, x2, seq + ↑k + 1) V HV.out.1 HV.out.2.2.2 hl1
      trace "a"
      refine hpu.mono ?_
      trace "b"
      clear hpu
      rintro e w2 ⟨rfl, v2, l2, hI2, hh2, hp2, hF2, hL2, hoth⟩
      have HR : Hid (AddRel qb base v l seq zs w (k + 1) w2) := by
        refine ⟨v2, l2, ⟨hI2, ?_, (hoth 1 (by omega)).2.trans HV.out.2.2.1, hh2⟩, ?_, ?_, ?_⟩
        · rw [(hoth 1 (by omega)).1, c3]
          congr 2
          omega
        · rw [HNS.out, ← List.append_assoc]
          have e1 : wt (x0, x1, x2) (seq + 1 + ↑k) = (x0, x1, x2, seq + ↑k + 1) := by
            unfold wt
            rw [show seq + 1 + (k : Int) = seq + ↑k + 1 by omega]
          rw [e1]
          exact hp2.trans (HP1.out.append_right _)
        · refine Fr.trans HF.out (Fr.trans HFV.out hF2 (fun i hi _ => hi)) (fun i hi hlt => ?_)
          rcases hi with hi | hi
          · exact .inl hi
          · rcases HL1.out i hi with h | h
            · exact .inr h
            · omega
        · intro g hg
          rcases hL2 g hg with h | h
          · exact HL1.out g h
          · exact .inr (Nat.le_trans HF.out.size (Nat.le_trans HFV.out.size h))
      clear hI2 hh2 hp2 hF2 hL2 hoth
      go_wp2
      go_roundw
      case rel => exact ⟨k + 1, by omega, by go_num, HR.out⟩
      case measure => simp [intOf]; omega
    · have : k = n := by omega
      subst this
      go_wp2
      go_end0
      exact ⟨rfl, v1, l1, hI, HP1.out, hF, HL1.out⟩
end Go.Proofs.YtjpmebfegpmccaaGreat
