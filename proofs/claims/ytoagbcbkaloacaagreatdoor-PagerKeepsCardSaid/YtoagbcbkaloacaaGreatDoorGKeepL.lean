/- arboretumlaw7.PagerKeeps: what its rounds keep (plain). -/
import Derived.Test.YtoagbcbkaloacaaGreatDoorGFlush
import Derived.Test.YtoagbcbkaloacaaGreatDoorGUndoesL
namespace Go.Proofs.YtoagbcbkaloacaaGreatDoor
open Go.RowKit Go.Maps Go.Conc

structure KeepJ (was : List Int) (old : Nat → ByteArray) (pg0 : Nat) (k : Nat) (s : PgS) : Prop where
  base : s.base = pg0
  most : s.most = 60
  pg1 : pg0 ≤ s.pages
  nw1 : s.pages ≤ s.nw.length
  nw2 : (s.nw.length : Int) ≤ 60
  wr : s.wr = []
  fw : s.fw = []
  l : ∀ x ∈ s.l, x ∈ was
  sp : ∀ x ∈ s.sp, (pg0 : Int) ≤ x ∧ x < (s.pages : Int)
  sla : SealA s.A
  keys : ∀ t ∈ s.A.map (·.1), 2 ≤ t ∧ t < (s.pages : Int) ∧ (t < (pg0 : Int) → t ∈ was)
  olds : ∀ j : Nat, 2 ≤ j → j < pg0 → s.nw.getD j default = old j
  al : s.A.length ≤ k
  sl : s.sp.length ≤ k
  dl : s.D.length ≤ k
  ll : s.l.length ≤ was.length + k
  nm : s.nm ≤ 2 * k

theorem SealA.all {A : List (Int × Value)} (h : SealA A) : AllPg A := fun x hx => by
  obtain ⟨j, k, n, b, rfl, _⟩ := h x hx
  exact ⟨k, n, b, rfl⟩

theorem seal_parts {id next kind : Int} {body : ByteArray} (h : sealCode id next kind body = 0) : sealOK id next kind ∧ body.size ≤ 240 := by
  unfold sealCode at h
  by_cases h1 : sealOK id next kind
  · rw [if_neg (by simpa using h1)] at h
    by_cases h2 : 240 < body.size
    · rw [if_pos h2] at h
      cases h
    · exact ⟨h1, by omega⟩
  · rw [if_pos h1] at h
    cases h

section
variable {was : List Int} {old : Nat → ByteArray} {pg0 k : Nat} {s s' : PgS}

theorem KeepJ.more (h : KeepJ was old pg0 k s) : KeepJ was old pg0 (k + 1) s :=
  ⟨h.base, h.most, h.pg1, h.nw1, h.nw2, h.wr, h.fw, h.l, h.sp, h.sla, h.keys, h.olds, by have := h.al; omega, by have := h.sl; omega, by have := h.dl; omega, by have := h.ll; omega, by have := h.nm; omega⟩

theorem KeepJ.next (h : KeepJ was old pg0 k s) (hw : ∀ x ∈ was, 2 ≤ x ∧ x < (pg0 : Int)) (hp : 2 ≤ pg0) : 2 ≤ nextOf s ∧ nextOf s ≤ 60 ∧ (nextOf s < (pg0 : Int) → nextOf s ∈ was) := by
  have p1 := h.pg1
  have p2 := h.nw1
  have p3 := h.nw2
  rcases next_cases s with ⟨_, h1⟩ | ⟨_, _, h1⟩ | ⟨_, _, h1⟩
  · have := h.sp _ h1
    exact ⟨by omega, by omega, fun hl => by omega⟩
  · have h2 := h.l _ h1
    have := hw _ h2
    exact ⟨by omega, by omega, fun _ => h2⟩
  · rw [h1]
    exact ⟨by omega, by omega, fun hl => by omega⟩

/-- A page was made. -/
theorem KeepJ.make {kk nn : Int} {b : ByteArray} {e : Ending} (h : KeepJ was old pg0 k s) (hw : ∀ x ∈ was, 2 ≤ x ∧ x < (pg0 : Int)) (hp : 2 ≤ pg0) (hM : MakeR s kk nn b e s') :
    KeepJ was old pg0 (k + 1) s' ∧ ((∃ c, c ≠ 0 ∧ e = .returned (.tuple #[.int .i64 0, .int .i64 c])) ∨ (e = .returned (.tuple #[.int .i64 (nextOf s), .int .i64 0]) ∧ nextOf s < (s'.pages : Int) ∧ nextOf s ∈ s'.A.map (·.1) ∧ ∀ v, (nextOf s, v) ∈ s'.A → v = pgv kk nn b)) := by
  have hnx := h.next hw hp
  rcases hM with ⟨hc, he, rfl⟩ | ⟨_, _, _, _, he, rfl⟩ | ⟨hsc, s1, hT, he, rfl⟩
  · exact ⟨h.more, .inl ⟨_, hc, he⟩⟩
  · exact ⟨h.more, .inl ⟨10, by decide, he⟩⟩
  · obtain ⟨⟨q1, q2, q3, q4, q5, q6⟩, q7⟩ := seal_parts hsc
    have hk : ((nextOf s, pgv kk nn b) :: ridA (nextOf s) s.A).map (·.1) = nextOf s :: rid (nextOf s) (s.A.map (·.1)) := by rw [List.map_cons, ridA_keys]
    have hse : SealA ((nextOf s, pgv kk nn b) :: ridA (nextOf s) s.A) := fun x hx => by
      rcases List.mem_cons.1 hx with rfl | hx
      · refine ⟨(nextOf s).toNat, kk.toNat, nn.toNat, b, ?_, by omega, by omega, by omega, by omega, q7⟩
        rw [Int.toNat_of_nonneg q1, Int.toNat_of_nonneg (by omega : 0 ≤ kk), Int.toNat_of_nonneg q3]
      · exact h.sla x (mem_ridA.1 hx).1
    have hal : ((nextOf s, pgv kk nn b) :: ridA (nextOf s) s.A).length ≤ k + 1 := by
      have e1 : (ridA (nextOf s) s.A).length ≤ s.A.length := List.length_filter_le _ _
      have := h.al
      simp
      omega
    have huniq : ∀ v, (nextOf s, v) ∈ ((nextOf s, pgv kk nn b) :: ridA (nextOf s) s.A) → v = pgv kk nn b := fun v hv => by
      rcases List.mem_cons.1 hv with e1 | hv
      · injection e1
      · exact absurd rfl (mem_ridA.1 hv).2
    have hin : nextOf s ∈ ((nextOf s, pgv kk nn b) :: ridA (nextOf s) s.A).map (·.1) := by rw [hk]; exact List.mem_cons_self
    have hkeys : ∀ P : Nat, s.pages ≤ P → nextOf s < (P : Int) → ∀ t ∈ ((nextOf s, pgv kk nn b) :: ridA (nextOf s) s.A).map (·.1), 2 ≤ t ∧ t < (P : Int) ∧ (t < (pg0 : Int) → t ∈ was) := fun P hP hnP t ht => by
      rw [hk] at ht
      rcases List.mem_cons.1 ht with rfl | ht
      · exact ⟨hnx.1, hnP, hnx.2.2⟩
      · obtain ⟨k1, k2, k3⟩ := h.keys t (mem_rid.1 ht).1
        exact ⟨k1, by omega, k3⟩
    have hnm := h.nm
    have hsl := h.sl
    have hdl := h.dl
    have hll := h.ll
    have p1 := h.pg1
    rcases hT with ⟨sp', hs, _, rfl, hpm⟩ | ⟨l', hs, hlp, _, rfl, hpm⟩ | ⟨hs, hl0, hm, _, rfl⟩ | ⟨_, _, _, he', _⟩
    · have hb := (h.sp _ (hpm.mem_iff.1 List.mem_cons_self)).2
      have hlen : sp'.length + 1 = s.sp.length := by rw [← hpm.length_eq]; rfl
      exact ⟨⟨h.base, h.most, h.pg1, h.nw1, h.nw2, h.wr, h.fw, h.l, fun x hx => h.sp x (hpm.mem_iff.1 (List.mem_cons_of_mem _ hx)), hse, hkeys s.pages (Nat.le_refl _) hb, h.olds, hal, by show sp'.length ≤ k + 1; omega, by show s.D.length ≤ k + 1; omega, by show s.l.length ≤ was.length + (k + 1); omega, by show s.nm + 1 ≤ 2 * (k + 1); omega⟩, .inr ⟨he, hb, hin, huniq⟩⟩
    · have hi := hw _ (h.l _ (hpm.mem_iff.1 List.mem_cons_self))
      have hb : nextOf s < (s.pages : Int) := by omega
      have hlen : l'.length + 1 = s.l.length := by rw [← hpm.length_eq]; rfl
      exact ⟨⟨h.base, h.most, h.pg1, h.nw1, h.nw2, h.wr, h.fw, fun x hx => h.l x (hpm.mem_iff.1 (List.mem_cons_of_mem _ hx)), h.sp, hse, hkeys s.pages (Nat.le_refl _) hb, h.olds, hal, by show s.sp.length ≤ k + 1; omega, by show s.D.length ≤ k + 1; omega, by show l'.length ≤ was.length + (k + 1); omega, by show s.nm + 1 ≤ 2 * (k + 1); omega⟩, .inr ⟨he, hb, hin, huniq⟩⟩
    · have hnp : nextOf s = s.pages := by
        unfold nextOf
        rw [hs, hl0]
        rfl
      have hb : nextOf s < ((s.pages + 1 : Nat) : Int) := by rw [hnp]; omega
      have n1 := h.nw1
      have n2 := h.nw2
      have hmm := h.most
      refine ⟨⟨h.base, h.most, by show pg0 ≤ s.pages + 1; omega, ?_, ?_, h.wr, h.fw, h.l, fun x hx => ?_, hse, hkeys (s.pages + 1) (Nat.le_succ _) hb, fun j hj1 hj2 => ?_, hal, by show s.sp.length ≤ k + 1; omega, by show s.D.length ≤ k + 1; omega, by show s.l.length ≤ was.length + (k + 1); omega, by show s.nm + 1 ≤ 2 * (k + 1); omega⟩, .inr ⟨he, hb, hin, huniq⟩⟩
      · show s.pages + 1 ≤ (s.nw ++ List.replicate (s.pages + 1 - s.nw.length) page0).length
        rw [List.length_append, List.length_replicate]
        omega
      · show ((s.nw ++ List.replicate (s.pages + 1 - s.nw.length) page0).length : Int) ≤ 60
        rw [List.length_append, List.length_replicate]
        rw [hmm] at hm
        omega
      · have := h.sp x hx
        show (pg0 : Int) ≤ x ∧ x < ((s.pages + 1 : Nat) : Int)
        omega
      · show (s.nw ++ List.replicate (s.pages + 1 - s.nw.length) page0).getD j default = old j
        rw [List.getD, List.getElem?_append_left (by omega)]
        exact h.olds j hj1 hj2
    · injection he' with he'
      injection he' with he'
      simp at he'

theorem KeepJ.drop {id : Int} (h : KeepJ was old pg0 k s) (hD : DropR s id s') : KeepJ was old pg0 (k + 1) s' := by
  have hnm := h.nm
  have hsl := h.sl
  have hal := h.al
  have hdl := h.dl
  have hll := h.ll
  have ha2 : (ridA id s.A).length ≤ s.A.length := List.length_filter_le _ _
  rcases hD with rfl | ⟨h2, hp, hm, hO⟩ | ⟨_, _, _, rfl⟩
  · exact h.more
  · have hse : SealA (ridA id s.A) := fun x hx => h.sla x (mem_ridA.1 hx).1
    have hke : ∀ t ∈ (ridA id s.A).map (·.1), 2 ≤ t ∧ t < (s.pages : Int) ∧ (t < (pg0 : Int) → t ∈ was) := fun t ht => by
      rw [ridA_keys] at ht
      exact h.keys t (mem_rid.1 ht).1
    rcases hO with ⟨hb, l', hl', rfl⟩ | ⟨hb, sp', hsp', rfl⟩
    · rw [h.base] at hb
      refine ⟨h.base, h.most, h.pg1, h.nw1, h.nw2, h.wr, h.fw, fun x hx => ?_, h.sp, hse, hke, h.olds, by show (ridA id s.A).length ≤ k + 1; omega, by show s.sp.length ≤ k + 1; omega, by show s.D.length ≤ k + 1; omega, ?_, by show s.nm + 1 ≤ 2 * (k + 1); omega⟩
      · rcases List.mem_append.1 (hl'.mem_iff.1 hx) with hx | hx
        · exact h.l x hx
        · rw [List.mem_singleton] at hx
          subst hx
          exact (h.keys x hm).2.2 hb
      · show l'.length ≤ was.length + (k + 1)
        rw [hl'.length_eq, List.length_append]
        simp
        omega
    · rw [h.base] at hb
      refine ⟨h.base, h.most, h.pg1, h.nw1, h.nw2, h.wr, h.fw, h.l, fun x hx => ?_, hse, hke, h.olds, by show (ridA id s.A).length ≤ k + 1; omega, ?_, by show s.D.length ≤ k + 1; omega, by show s.l.length ≤ was.length + (k + 1); omega, by show s.nm + 1 ≤ 2 * (k + 1); omega⟩
      · rcases List.mem_append.1 (hsp'.mem_iff.1 hx) with hx | hx
        · exact h.sp x hx
        · rw [List.mem_singleton] at hx
          subst hx
          exact ⟨by omega, hp⟩
      · show sp'.length ≤ k + 1
        rw [hsp'.length_eq, List.length_append]
        simp
        omega
  · refine ⟨h.base, h.most, h.pg1, h.nw1, h.nw2, h.wr, h.fw, h.l, h.sp, h.sla, h.keys, h.olds, by show s.A.length ≤ k + 1; omega, by show s.sp.length ≤ k + 1; omega, ?_, by show s.l.length ≤ was.length + (k + 1); omega, by show s.nm + 1 ≤ 2 * (k + 1); omega⟩
    show (id :: rid id s.D).length ≤ k + 1
    have e1 : (rid id s.D).length ≤ s.D.length := List.length_filter_le _ _
    simp
    omega
end
end Go.Proofs.YtoagbcbkaloacaaGreatDoor
