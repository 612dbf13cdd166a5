/- ReadPlays: what stands in the two queues and the Book, step by step. -/
import Derived.Test.YtjpmebfegpmccaaGreatRQR
import Derived.Test.YtjpmebfegpmccaaGreatRAlive
import Derived.Test.YtjpmebfegpmccaaGreatBkN
import Derived.Test.YtjpmebfegpmccaaGreatRPOpen
namespace Go.Proofs.YtjpmebfegpmccaaGreat
open Go.RowKit

def insAll (S : List Wt) (c : Int) (zs : List Rd) : Nat → List Wt
  | 0 => S
  | k + 1 => insW (insAll S c zs k) (wt (HL.el zs k) (c + 1 + (k : Int)))

theorem insAll_qs {S : List Wt} {c : Int} {zs : List Rd} (h : QS S c) : ∀ k : Nat, QS (insAll S c zs k) (c + k)
  | 0 => by simpa [insAll] using h
  | k + 1 => by
    have ih := (insAll_qs h (zs := zs) k).ins (x := wt (HL.el zs k) (c + 1 + (k : Int))) (by show c + 1 + (k : Int) = c + k + 1; omega)
    have e : c + ((k + 1 : Nat) : Int) = c + k + 1 := by omega
    rw [e]
    exact ih
theorem insAll_perm (S : List Wt) (c : Int) (zs : List Rd) : ∀ k : Nat, (insAll S c zs k).Perm (S ++ numbered zs c k)
  | 0 => by simp [insAll, numbered]
  | k + 1 => by
    rw [numbered_succ, ← List.append_assoc]
    exact (insW_perm _ _).trans ((insAll_perm S c zs k).append_right _)
theorem insAll_map (S : List Wt) (c : Int) (zs : List Rd) (k : Nat) : (insAll S c zs (k + 1)).map rdOf = insD ((insAll S c zs k).map rdOf) (HL.el zs k) := map_insW _ _
theorem insAll_length (S : List Wt) (c : Int) (zs : List Rd) (k : Nat) : (insAll S c zs k).length = S.length + k := by
  rw [(insAll_perm S c zs k).length_eq, List.length_append, numbered_length]

/-- Every index and round is an int. -/
def IntsOk (S : List Wt) : Prop := ∀ x ∈ S, x.2.1 ≤ 9223372036854775807 ∧ x.2.2.1 ≤ 9223372036854775807
structure QS2 (S : List Wt) (c : Int) : Prop where
  base : QS S c
  ok : IntsOk S
theorem QS2.nil : QS2 [] 0 := ⟨QS.nil, fun x h => by cases h⟩
theorem QS2.filter {S : List Wt} {c : Int} (h : QS2 S c) (f : Wt → Bool) : QS2 (S.filter f) c := ⟨h.base.filter f, fun x hx => h.ok x (List.mem_filter.1 hx).1⟩
theorem rd_le {n : Int} (h : i64ok n) : n ≤ 9223372036854775807 := by
  have h2 := of_decide_eq_true (Bool.and_eq_true_iff.1 h).2
  have e : IntKind.max .i64 = 9223372036854775807 := by decide
  rw [e] at h2
  exact h2
theorem insAll_qs2 {S : List Wt} {c : Int} {zs : List Rd} {n : Nat} (h : QS2 S c) (hz : ∀ z ∈ zs, rdok z) (hn : zs.length = n) (k : Nat) (hk : k ≤ n) : QS2 (insAll S c zs k) (c + k) := by
  refine ⟨insAll_qs h.base k, fun x hx => ?_⟩
  rcases List.mem_append.1 ((insAll_perm S c zs k).subset hx) with h1 | h1
  · exact h.ok x h1
  · obtain ⟨i, hi, rfl⟩ := List.mem_map.1 h1
    have hi' := List.mem_range.1 hi
    have := hz _ (HL.el_mem zs i (by omega))
    exact ⟨rd_le this.2.1, rd_le this.2.2⟩

/-- Both queues and the Book, apart from each other. -/
structure RPW (w W : World) (qb rb bb N : Nat) (qv rv_ : Value) (l : List Wt) (seq : Int) (L : List Rd) (F : Nat → Prop) : Prop where
  q : QueueI qb w.heap.size qv l seq W
  r : RQI rb w.heap.size rv_ L W
  k : BookN W bb w.heap.size N F
  qr : ∀ j, queueF qb qv j → ¬ rqF rb rv_ j
  qf : ∀ j, queueF qb qv j → ¬ F j
  rf : ∀ j, rqF rb rv_ j → ¬ F j
  bq : w.heap.size ≤ qb
  br : w.heap.size ≤ rb
  bb : w.heap.size ≤ bb
  bel : Below w.heap.size w W

section
variable {w W W' : World} {qb rb bb N N' : Nat} {qv rv_ qv' rv' : Value} {l l' : List Wt} {seq seq' : Int} {L L' : List Rd} {F F' : Nat → Prop}

theorem RPW.below (h : RPW w W qb rb bb N qv rv_ l seq L F) (hb : Below W.heap.size W W') : RPW w W' qb rb bb N qv rv_ l seq L F :=
  ⟨h.q.below hb, h.r.below hb, h.k.below hb, h.qr, h.qf, h.rf, h.bq, h.br, h.bb, h.bel.trans (hb.mono h.bel.size)⟩

theorem RPW.setq (h : RPW w W qb rb bb N qv rv_ l seq L F) (hq : QueueI qb w.heap.size qv' l' seq' W') (hF : Fr (queueF qb qv) W W') (hl : ∀ g, qv'.ownBlock = some g → Lies qv g W.heap.size) : RPW w W' qb rb bb N qv' rv_ l' seq' L F := by
  have hsub : ∀ j, queueF qb qv' j → queueF qb qv j ∨ W.heap.size ≤ j := by
    rintro j (e | e)
    · exact .inl (.inl e)
    · rcases hl j e with h1 | h1
      · exact .inl (.inr h1)
      · exact .inr h1
  refine ⟨hq, h.r.keep hF (fun k hk hk2 => h.qr k hk2 hk), h.k.keep hF (fun b hb hk => h.qf b hk hb), fun j hj hr => ?_, fun j hj hf => ?_, h.rf, h.bq, h.br, h.bb, h.bel.trans (hF.below h.bel.size (fun i hi => h.q.ge h.bq i hi))⟩
  · rcases hsub j hj with h1 | h1
    · exact h.qr j h1 hr
    · have := h.r.lt j hr; omega
  · rcases hsub j hj with h1 | h1
    · exact h.qf j h1 hf
    · have := h.k.lt j hf; omega

theorem RPW.setr (h : RPW w W qb rb bb N qv rv_ l seq L F) (hr : RQI rb w.heap.size rv' L' W') (hF : Fr (fun k => k = rb) W W') (hl : ∀ g, rv'.ownBlock = some g → W.heap.size ≤ g) : RPW w W' qb rb bb N qv rv' l seq L' F := by
  have hsub : ∀ j, rqF rb rv' j → j = rb ∨ W.heap.size ≤ j := by
    rintro j (e | e)
    · exact .inl e
    · exact .inr (hl j e)
  refine ⟨h.q.keep hF (fun k hk hk2 => h.qr k hk (.inl hk2)), hr, h.k.keep hF (fun b hb hk => h.rf b (.inl hk) hb), fun j hj hr2 => ?_, h.qf, fun j hj hf => ?_, h.bq, h.br, h.bb, h.bel.trans (hF.below h.bel.size (fun i hi => by rw [hi]; exact h.br))⟩
  · rcases hsub j hr2 with h1 | h1
    · exact h.qr j hj (.inl h1)
    · have := h.q.lt j hj; omega
  · rcases hsub j hj with h1 | h1
    · exact h.rf j (.inl h1) hf
    · have := h.k.lt j hf; omega

theorem RPW.setk (h : RPW w W qb rb bb N qv rv_ l seq L F) {v : Value} (hk : BookN W' bb w.heap.size N' (fun b => F b ∨ v.ownBlock = some b ∨ (W.heap.size ≤ b ∧ b < W'.heap.size))) (hF : Fr F W W') (hB : Below w.heap.size W W') (h1 : ∀ b, v.ownBlock = some b → ¬ queueF qb qv b ∧ ¬ rqF rb rv_ b) :
    RPW w W' qb rb bb N' qv rv_ l seq L (fun b => F b ∨ v.ownBlock = some b ∨ (W.heap.size ≤ b ∧ b < W'.heap.size)) := by
  refine ⟨h.q.keep hF (fun k hk => h.qf k hk), h.r.keep hF (fun k hk => h.rf k hk), hk, h.qr, fun j hj hf => ?_, fun j hj hf => ?_, h.bq, h.br, h.bb, ?_⟩
  · rcases hf with e | e | e
    · exact h.qf j hj e
    · exact (h1 j e).1 hj
    · have := h.q.lt j hj; omega
  · rcases hf with e | e | e
    · exact h.rf j hj e
    · exact (h1 j e).2 hj
    · have := h.r.lt j hj; omega
  · exact h.bel.trans hB
end

/-- The law's state ahead of step i. -/
def RPI (w : World) (qb rb bb i : Nat) (W : World) : Prop :=
  ∃ qv rv_ l seq S F N, RPW w W qb rb bb N qv rv_ l seq (S.map rdOf) F ∧ N ≤ i ∧ QS2 S seq ∧ l.Perm S ∧ 0 ≤ seq ∧ seq ≤ 40 * (i : Int) ∧ S.length ≤ 40 * i

theorem RPI.of (w : World) {qb rb bb i : Nat} {W : World} (h : RPI w qb rb bb i W) : Below w.heap.size w W := by
  obtain ⟨_, _, _, _, _, _, _, h, _⟩ := h
  exact h.bel
theorem RPI.below {w : World} {qb rb bb i : Nat} {W W' : World} (h : RPI w qb rb bb i W) (hb : Below W.heap.size W W') : RPI w qb rb bb i W' := by
  obtain ⟨a, b, c, d, e, f, g, h, k⟩ := h
  exact ⟨a, b, c, d, e, f, g, h.below hb, k⟩
end Go.Proofs.YtjpmebfegpmccaaGreat
