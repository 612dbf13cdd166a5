/- arboretumlaw7.PagerUndoes: what its rounds keep (plain). -/
import Derived.Test.YtoagbcbkaloacaaGreatDoorGUndo
namespace Go.Proofs.YtoagbcbkaloacaaGreatDoor
open Go.RowKit Go.Maps Go.Conc

/-- Those below page 12. -/
def low (ks : List Int) : List Int := ks.filter (fun x => decide (x < 12))
theorem mem_low {ks : List Int} {x : Int} : x ∈ low ks ↔ x ∈ ks ∧ x < 12 := by simp [low]

structure UndJ (l0 : List Int) (k : Nat) (s : PgS) : Prop where
  base : s.base = 12
  most : s.most = 40
  pg1 : 12 ≤ s.pages
  nw1 : s.pages ≤ s.nw.length
  nw2 : (s.nw.length : Int) ≤ 40
  wr : s.wr = []
  fw : s.fw = []
  sp : ∀ x ∈ s.sp, 12 ≤ x ∧ x < (s.pages : Int)
  pg : AllPg s.A
  nod : (s.A.map (·.1)).Nodup
  perm : (s.l ++ low (s.A.map (·.1))).Perm l0
  al : s.A.length ≤ k
  sl : s.sp.length ≤ k
  nm : s.nm ≤ 2 * k

section
variable {l0 : List Int} {k : Nat} {s s' : PgS}

theorem UndJ.more (h : UndJ l0 k s) : UndJ l0 (k + 1) s :=
  ⟨h.base, h.most, h.pg1, h.nw1, h.nw2, h.wr, h.fw, h.sp, h.pg, h.nod, h.perm, by have := h.al; omega, by have := h.sl; omega, by have := h.nm; omega⟩

theorem UndJ.ll (h : UndJ l0 k s) : s.l.length ≤ l0.length := by
  have e := h.perm.length_eq
  rw [List.length_append] at e
  omega

theorem next_cases (s : PgS) : (0 < s.sp.length ∧ nextOf s ∈ s.sp) ∨ (s.sp = [] ∧ 0 < s.l.length ∧ nextOf s ∈ s.l) ∨ (s.sp = [] ∧ s.l = [] ∧ nextOf s = s.pages) := by
  unfold nextOf
  by_cases h1 : 0 < s.sp.length
  · rw [if_pos h1]
    exact .inl ⟨h1, HL.el_mem _ _ h1⟩
  · rw [if_neg h1]
    have e1 : s.sp = [] := List.eq_nil_of_length_eq_zero (by omega)
    by_cases h2 : 0 < s.l.length
    · rw [if_pos h2]
      exact .inr (.inl ⟨e1, h2, (CL.srt_perm s.l).mem_iff.1 (HL.el_mem _ _ (by rw [CL.srt_length]; exact h2))⟩)
    · rw [if_neg h2]
      exact .inr (.inr ⟨e1, List.eq_nil_of_length_eq_zero (by omega), rfl⟩)

theorem UndJ.bound (h : UndJ l0 k s) (hl : ∀ x ∈ l0, 2 ≤ x ∧ x < 12) : 2 ≤ nextOf s ∧ nextOf s ≤ 40 := by
  have hm : ∀ x ∈ s.l, 2 ≤ x ∧ x < 12 := fun x hx => hl x (h.perm.mem_iff.1 (List.mem_append_left _ hx))
  have p1 := h.pg1
  have p2 := h.nw1
  have p3 := h.nw2
  rcases next_cases s with ⟨_, h1⟩ | ⟨_, _, h1⟩ | ⟨_, _, h1⟩
  · have := h.sp _ h1
    omega
  · have := hm _ h1
    omega
  · rw [h1]
    omega

theorem low_cons_big {t : Int} (ht : 12 ≤ t) (ks : List Int) : low (t :: rid t ks) = low ks := by
  unfold low rid
  rw [List.filter_cons_of_neg (by simp; omega), List.filter_filter]
  refine List.filter_congr (fun x _ => ?_)
  by_cases hx : x < 12
  · have : x ≠ t := by omega
    simp [hx, this]
  · simp [hx]
theorem low_rid_big {t : Int} (ht : 12 ≤ t) (ks : List Int) : low (rid t ks) = low ks := by
  unfold low rid
  rw [List.filter_filter]
  refine List.filter_congr (fun x _ => ?_)
  by_cases hx : x < 12
  · have : x ≠ t := by omega
    simp [hx, this]
  · simp [hx]
theorem low_cons_new {t : Int} (ht : t < 12) {ks : List Int} (hn : t ∉ low ks) : low (t :: rid t ks) = t :: low ks := by
  unfold low rid at *
  rw [List.filter_cons_of_pos (by simpa using ht), List.filter_filter]
  congr 1
  refine List.filter_congr (fun x hx => ?_)
  by_cases hxl : x < 12
  · have : x ≠ t := fun e => hn (List.mem_filter.2 ⟨by rw [← e]; exact hx, by simpa using ht⟩)
    simp [hxl, this]
  · simp [hxl]
theorem low_rid_old {t : Int} (ht : t < 12) {ks : List Int} (hm : t ∈ ks) (hn : ks.Nodup) : (t :: low (rid t ks)).Perm (low ks) := by
  have e : low (rid t ks) = (low ks).erase t := by
    rw [show (low ks).erase t = (low ks).filter (fun x => x != t) from List.Nodup.erase_eq_filter (hn.filter _) t]
    unfold low rid
    rw [List.filter_filter, List.filter_filter]
    refine List.filter_congr (fun x _ => ?_)
    by_cases hx : x < 12 <;> by_cases hxt : x = t <;> simp [hx, hxt]
  rw [e]
  exact (List.perm_cons_erase (mem_low.2 ⟨hm, ht⟩)).symm

theorem rid_nodup {t : Int} {ks : List Int} (h : ks.Nodup) : (t :: rid t ks).Nodup := List.nodup_cons.2 ⟨by simp [mem_rid], h.filter _⟩

theorem UndJ.make {kk nn : Int} {b : ByteArray} {e : Ending} (h : UndJ l0 k s) (hl : ∀ x ∈ l0, 2 ≤ x ∧ x < 12) (hn0 : l0.Nodup) (hM : MakeR s kk nn b e s') : UndJ l0 (k + 1) s' := by
  rcases hM with ⟨_, _, rfl⟩ | ⟨_, _, _, _, _, rfl⟩ | ⟨_, s1, hT, _, rfl⟩
  · exact h.more
  · exact h.more
  · have hk : ((nextOf s, pgv kk nn b) :: ridA (nextOf s) s.A).map (·.1) = nextOf s :: rid (nextOf s) (s.A.map (·.1)) := by rw [List.map_cons, ridA_keys]
    have hpg : AllPg ((nextOf s, pgv kk nn b) :: ridA (nextOf s) s.A) := fun x hx => by
      rcases List.mem_cons.1 hx with rfl | hx
      · exact ⟨kk, nn, b, rfl⟩
      · exact h.pg x (mem_ridA.1 hx).1
    have hal : ((nextOf s, pgv kk nn b) :: ridA (nextOf s) s.A).length ≤ k + 1 := by
      have e1 : (ridA (nextOf s) s.A).length ≤ s.A.length := List.length_filter_le _ _
      have := h.al
      simp
      omega
    have hnod : (((nextOf s, pgv kk nn b) :: ridA (nextOf s) s.A).map (·.1)).Nodup := by rw [hk]; exact rid_nodup h.nod
    have hnm := h.nm
    have hsl := h.sl
    rcases hT with ⟨sp', hs, _, rfl, hp⟩ | ⟨l', hs, hlp, _, rfl, hp⟩ | ⟨hs, hl0, hm, _, rfl⟩ | ⟨_, _, _, he, _⟩
    · have h12 : 12 ≤ nextOf s := (h.sp _ (hp.mem_iff.1 List.mem_cons_self)).1
      have hlen : sp'.length + 1 = s.sp.length := by rw [← hp.length_eq]; rfl
      refine ⟨h.base, h.most, h.pg1, h.nw1, h.nw2, h.wr, h.fw, fun x hx => h.sp x (hp.mem_iff.1 (List.mem_cons_of_mem _ hx)), hpg, hnod, ?_, hal, by show sp'.length ≤ k + 1; omega, by show s.nm + 1 ≤ 2 * (k + 1); omega⟩
      show (s.l ++ low (((nextOf s, pgv kk nn b) :: ridA (nextOf s) s.A).map (·.1))).Perm l0
      rw [hk, low_cons_big h12]
      exact h.perm
    · have hin : nextOf s ∈ s.l := hp.mem_iff.1 List.mem_cons_self
      have h12 : nextOf s < 12 := (hl _ (h.perm.mem_iff.1 (List.mem_append_left _ hin))).2
      have hnl : nextOf s ∉ low (s.A.map (·.1)) := fun hi => by
        have hnd : (s.l ++ low (s.A.map (·.1))).Nodup := h.perm.nodup_iff.2 hn0
        exact (List.nodup_append.1 hnd).2.2 _ hin _ hi rfl
      refine ⟨h.base, h.most, h.pg1, h.nw1, h.nw2, h.wr, h.fw, h.sp, hpg, hnod, ?_, hal, by show s.sp.length ≤ k + 1; omega, by show s.nm + 1 ≤ 2 * (k + 1); omega⟩
      show (l' ++ low (((nextOf s, pgv kk nn b) :: ridA (nextOf s) s.A).map (·.1))).Perm l0
      rw [hk, low_cons_new h12 hnl]
      exact (List.perm_middle.trans (hp.append_right _)).trans h.perm
    · have hnx : nextOf s = s.pages := by
        unfold nextOf
        rw [hs, hl0]
        rfl
      have h12 : 12 ≤ nextOf s := by rw [hnx]; have := h.pg1; omega
      have hmm := h.most
      refine ⟨h.base, h.most, by show 12 ≤ s.pages + 1; have := h.pg1; omega, ?_, ?_, h.wr, h.fw, fun x hx => ?_, hpg, hnod, ?_, hal, by show s.sp.length ≤ k + 1; omega, by show s.nm + 1 ≤ 2 * (k + 1); omega⟩
      · show s.pages + 1 ≤ (s.nw ++ List.replicate (s.pages + 1 - s.nw.length) page0).length
        rw [List.length_append, List.length_replicate]
        omega
      · show ((s.nw ++ List.replicate (s.pages + 1 - s.nw.length) page0).length : Int) ≤ 40
        rw [List.length_append, List.length_replicate]
        have := h.nw2
        rw [hmm] at hm
        omega
      · have := h.sp x hx
        show 12 ≤ x ∧ x < ((s.pages + 1 : Nat) : Int)
        omega
      · show (s.l ++ low (((nextOf s, pgv kk nn b) :: ridA (nextOf s) s.A).map (·.1))).Perm l0
        rw [hk, low_cons_big h12]
        exact h.perm
    · injection he with he
      injection he with he
      simp at he

theorem UndJ.drop {id : Int} (h : UndJ l0 k s) (hD : DropR s id s') : UndJ l0 (k + 1) s' := by
  have hnm := h.nm
  have hsl := h.sl
  have hal := h.al
  have ha2 : (ridA id s.A).length ≤ s.A.length := List.length_filter_le _ _
  rcases hD with rfl | ⟨h2, hp, hm, hO⟩ | ⟨_, _, _, rfl⟩
  · exact h.more
  · have hpg : AllPg (ridA id s.A) := fun x hx => h.pg x (mem_ridA.1 hx).1
    have hnod : ((ridA id s.A).map (·.1)).Nodup := by rw [ridA_keys]; exact h.nod.filter _
    rcases hO with ⟨hb, l', hl', rfl⟩ | ⟨hb, sp', hsp', rfl⟩
    · rw [h.base] at hb
      refine ⟨h.base, h.most, h.pg1, h.nw1, h.nw2, h.wr, h.fw, h.sp, hpg, hnod, ?_, by show (ridA id s.A).length ≤ k + 1; omega, by show s.sp.length ≤ k + 1; omega, by show s.nm + 1 ≤ 2 * (k + 1); omega⟩
      show (l' ++ low ((ridA id s.A).map (·.1))).Perm l0
      rw [ridA_keys]
      refine ((hl'.append_right _).trans ?_).trans h.perm
      rw [List.append_assoc]
      exact (low_rid_old (by omega) hm h.nod).append_left s.l
    · rw [h.base] at hb
      refine ⟨h.base, h.most, h.pg1, h.nw1, h.nw2, h.wr, h.fw, fun x hx => ?_, hpg, hnod, ?_, by show (ridA id s.A).length ≤ k + 1; omega, ?_, by show s.nm + 1 ≤ 2 * (k + 1); omega⟩
      · rcases List.mem_append.1 (hsp'.mem_iff.1 hx) with hx | hx
        · exact h.sp x hx
        · rw [List.mem_singleton] at hx
          subst hx
          exact ⟨by omega, hp⟩
      · show (s.l ++ low ((ridA id s.A).map (·.1))).Perm l0
        rw [ridA_keys, low_rid_big (by omega)]
        exact h.perm
      · show sp'.length ≤ k + 1
        rw [hsp'.length_eq, List.length_append]
        simp
        omega
  · exact ⟨h.base, h.most, h.pg1, h.nw1, h.nw2, h.wr, h.fw, h.sp, h.pg, h.nod, h.perm, by show s.A.length ≤ k + 1; omega, by show s.sp.length ≤ k + 1; omega, by show s.nm + 1 ≤ 2 * (k + 1); omega⟩

/-- What is undone makes it as it was. -/
theorem UndJ.undo {l' : List Int} (h : UndJ l0 k s) (hp : l'.Perm (s.l ++ undone s (CL.srt (s.A.map (·.1))))) : l'.Perm l0 := by
  have e : undone s (CL.srt (s.A.map (·.1))) = low (CL.srt (s.A.map (·.1))) := by
    unfold undone low
    rw [h.base]
    rfl
  rw [e] at hp
  exact (hp.trans (((CL.srt_perm _).filter _).append_left _)).trans h.perm
end
end Go.Proofs.YtoagbcbkaloacaaGreatDoor
