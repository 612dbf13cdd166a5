/- pager: what makes leave, of a pager with no free pages (plain). -/
import Derived.Test.YtlocadmiomglaaaGreatDoorGKeys
namespace Go.Proofs.YtlocadmiomglaaaGreatDoor
open Go.RowKit Go.Maps Go.Conc

/-- A pager of pages 2 .. i-1, all made here. -/
structure Full (s : PgS) (m i : Nat) : Prop where
  base : s.base = 2
  pages : s.pages = i
  sp : s.sp = []
  l : s.l = []
  len : s.A.length + 2 = i
  keys : ∀ t ∈ s.A.map (·.1), 2 ≤ t ∧ t < (i : Int)
  pg : AllPg s.A
  most : s.most = m
  nw : s.nw.length = i
  nm : s.nm ≤ 2 * i

theorem Full.new {db dbase fb fbase : Nat} {sy : List ByteArray} {wr : List Wr} {fw : List (Int × Int)} {txn : Int} {m bm bd bw sb sbase : Nat} : Full (pgNew db dbase m sy (List.replicate 2 page0) wr fb fbase [] fw 2 txn bm bd bw sb sbase) m 2 :=
  ⟨rfl, rfl, rfl, rfl, rfl, (fun _ h => by cases h), (fun _ h => by cases h), rfl, (by simp [pgNew]), Nat.zero_le _⟩

theorem Full.next {s : PgS} {m i : Nat} (h : Full s m i) : nextOf s = (i : Int) := by
  unfold nextOf
  rw [h.sp, h.l, h.pages]
  rfl

theorem Full.make {s s' : PgS} {m i : Nat} {k n : Int} {b : ByteArray} {e : Ending} (h : Full s m i) (hi : i < m) (hc : sealCode (i : Int) n k b = 0) (hM : MakeR s k n b e s') : e = .returned (.tuple #[.int .i64 i, .int .i64 0]) ∧ Full s' m (i + 1) ∧ s'.A = ((i : Int), pgv k n b) :: s.A ∧ s'.W = rid (i : Int) s.W := by
  have hn := h.next
  have h2 : 2 ≤ i := by have := h.len; omega
  rcases hM with ⟨h1, _⟩ | ⟨_, _, _, h1, _⟩ | ⟨_, s1, hT, he, rfl⟩
  · rw [hn] at h1
    exact absurd hc h1
  · rw [h.most, h.pages] at h1
    omega
  · rw [hn] at he hT ⊢
    have hrid : ridA (i : Int) s.A = s.A := List.filter_eq_self.2 (fun x hx => by
      have := h.keys x.1 (List.mem_map.2 ⟨x, hx, rfl⟩)
      simp
      omega)
    rcases hT with ⟨_, h1, _⟩ | ⟨_, _, h1, _⟩ | ⟨_, _, _, _, rfl⟩ | ⟨_, _, h1, _⟩
    · rw [h.sp] at h1; cases h1
    · rw [h.l] at h1; cases h1
    · refine ⟨he, ⟨h.base, by show s.pages + 1 = i + 1; rw [h.pages], h.sp, h.l, ?_, ?_, ?_, h.most, ?_, ?_⟩, ?_, rfl⟩
      · show (((i : Int), pgv k n b) :: ridA (i : Int) s.A).length + 2 = i + 1
        rw [hrid]
        have := h.len
        simp
        omega
      · show ∀ t ∈ (((i : Int), pgv k n b) :: ridA (i : Int) s.A).map (·.1), 2 ≤ t ∧ t < ((i + 1 : Nat) : Int)
        rw [hrid]
        intro t ht
        rw [List.map_cons] at ht
        rcases List.mem_cons.1 ht with rfl | ht
        · show 2 ≤ (i : Int) ∧ (i : Int) < ((i + 1 : Nat) : Int)
          omega
        · have := h.keys t ht
          omega
      · show AllPg (((i : Int), pgv k n b) :: ridA (i : Int) s.A)
        rw [hrid]
        intro x hx
        rcases List.mem_cons.1 hx with rfl | hx
        · exact ⟨k, n, b, rfl⟩
        · exact h.pg x hx
      · show (s.nw ++ List.replicate (s.pages + 1 - s.nw.length) page0).length = i + 1
        rw [List.length_append, List.length_replicate, h.nw, h.pages]
        omega
      · show s.nm + 1 ≤ 2 * (i + 1)
        have := h.nm
        omega
      · show ((i : Int), pgv k n b) :: ridA (i : Int) s.A = _
        rw [hrid]
    · rw [h.most, h.pages] at h1
      omega

/-- There is no room. -/
theorem Full.none {s s' : PgS} {m : Nat} {k n : Int} {b : ByteArray} {e : Ending} (h : Full s m m) (hc : sealCode (m : Int) n k b = 0) (hM : MakeR s k n b e s') : e = .returned (.tuple #[.int .i64 0, .int .i64 10]) ∧ s' = s := by
  have hn := h.next
  rcases hM with ⟨h1, _⟩ | ⟨_, _, _, _, he, hs⟩ | ⟨_, s1, hT, he, _⟩
  · rw [hn] at h1
    exact absurd hc h1
  · exact ⟨he, hs⟩
  · rcases hT with ⟨_, h1, _⟩ | ⟨_, _, h1, _⟩ | ⟨_, _, h1, _⟩ | ⟨_, _, _, h1, _⟩
    · rw [h.sp] at h1; cases h1
    · rw [h.l] at h1; cases h1
    · rw [h.most, h.pages] at h1; omega
    · injection h1 with h1
      injection h1 with h1
      simp at h1

/-- Page 2 is dropped, and made anew. -/
structure Gone (s : PgS) (m i : Nat) : Prop where
  pages : s.pages = i
  sp : s.sp = [2]
  most : s.most = m
  nw : s.nw.length = i
  pg : AllPg s.A
  nm : s.nm ≤ 2 * i + 1

theorem Full.drop {s s' : PgS} {m i : Nat} (h : Full s m i) (hD : DropO s 2 s') : Gone s' m i ∧ s'.A = ridA 2 s.A := by
  rcases hD with ⟨h1, _⟩ | ⟨_, sp', hp, rfl⟩
  · rw [h.base] at h1
    omega
  · rw [h.sp] at hp
    have e : sp' = [2] := by simpa using hp
    subst e
    refine ⟨⟨h.pages, rfl, h.most, h.nw, fun x hx => h.pg x (mem_ridA.1 hx).1, ?_⟩, rfl⟩
    show s.nm + 1 ≤ 2 * i + 1
    have := h.nm
    omega

theorem Gone.next {s : PgS} {m i : Nat} (h : Gone s m i) : nextOf s = 2 := by
  unfold nextOf
  rw [h.sp]
  rfl
theorem Gone.make {s s' : PgS} {m i : Nat} {k n : Int} {b : ByteArray} {e : Ending} (h : Gone s m i) (hc : sealCode 2 n k b = 0) (hM : MakeR s k n b e s') : e = .returned (.tuple #[.int .i64 2, .int .i64 0]) ∧ s'.pages = i ∧ s'.A = (2, pgv k n b) :: ridA 2 s.A ∧ AllPg s'.A := by
  have hn := h.next
  rcases hM with ⟨h1, _⟩ | ⟨_, h1, _⟩ | ⟨_, s1, hT, he, rfl⟩
  · rw [hn] at h1
    exact absurd hc h1
  · rw [h.sp] at h1
    cases h1
  · rw [hn] at he hT ⊢
    obtain ⟨_, _, _, hA, _⟩ := hT.same
    have hAll : AllPg ((2, pgv k n b) :: ridA 2 s1.A) := fun x hx => by
      rcases List.mem_cons.1 hx with rfl | hx
      · exact ⟨k, n, b, rfl⟩
      · rw [hA] at hx
        exact h.pg x (mem_ridA.1 hx).1
    rcases hT with ⟨sp', _, _, rfl, _⟩ | ⟨_, h1, _⟩ | ⟨h1, _⟩ | ⟨h1, _⟩
    · exact ⟨he, h.pages, rfl, hAll⟩
    · rw [h.sp] at h1; cases h1
    · rw [h.sp] at h1; cases h1
    · rw [h.sp] at h1; cases h1
end Go.Proofs.YtlocadmiomglaaaGreatDoor
