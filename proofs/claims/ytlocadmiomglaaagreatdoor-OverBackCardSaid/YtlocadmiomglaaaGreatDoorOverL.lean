/- Chapter 10, the plain law: what Make and Drop leave of a pager with no free pages; a chain of pages. -/
import Derived.Test.YtlocadmiomglaaaGreatDoorGDrop
import Derived.Test.YtlocadmiomglaaaGreatDoorOCut
namespace Go.Proofs.YtlocadmiomglaaaGreatDoor
open Go.RowKit Go.Maps Go.Conc

def kys (s : PgS) : List Int := s.A.map (·.1)

structure OvJ (m k : Nat) (s : PgS) : Prop where
  base : s.base = 2
  most : s.most = m
  l : s.l = []
  pg2 : 2 ≤ s.pages
  nwp : s.pages ≤ s.nw.length
  nwm : s.nw.length ≤ m
  keys : ∀ t ∈ kys s, 2 ≤ t ∧ t < (s.pages : Int)
  knd : (kys s).Nodup
  sps : ∀ t ∈ s.sp, 2 ≤ t ∧ t < (s.pages : Int)
  spn : s.sp.Nodup
  apart : ∀ t ∈ s.sp, t ∉ kys s
  pg : AllPg s.A
  nm : s.nm ≤ k
  cnt : s.sp.length + s.A.length + 2 = s.pages

/-- How many pages may still be made. -/
def room (m : Nat) (s : PgS) : Nat := s.sp.length + (m - s.pages)

theorem OvJ.new {db dbase fb fbase : Nat} {sy : List ByteArray} {wr : List Wr} {fw : List (Int × Int)} {txn : Int} {m bm bd bw sb sbase : Nat} (hm : 2 ≤ m) : OvJ m 0 (pgNew db dbase m sy (List.replicate 2 page0) wr fb fbase [] fw 2 txn bm bd bw sb sbase) :=
  ⟨rfl, rfl, rfl, Nat.le_refl _, (by simp [pgNew]), (by simp [pgNew]; exact hm), (fun _ h => by cases h), List.nodup_nil, (fun _ h => by cases h), List.nodup_nil, (fun _ h => by cases h), (fun _ h => by cases h), Nat.le_refl _, rfl⟩

section
variable {m k : Nat} {s s' : PgS}
theorem OvJ.mono {j : Nat} (h : OvJ m k s) (hj : k ≤ j) : OvJ m j s := ⟨h.base, h.most, h.l, h.pg2, h.nwp, h.nwm, h.keys, h.knd, h.sps, h.spn, h.apart, h.pg, Nat.le_trans h.nm hj, h.cnt⟩

theorem el_mem {l : List Int} (h : 0 < l.length) : HL.el l 0 ∈ l := by
  cases l with
  | nil => simp at h
  | cons a r => simp [HL.el]

theorem OvJ.next (h : OvJ m k s) : 2 ≤ nextOf s ∧ nextOf s ≤ (m : Int) ∧ nextOf s ∉ kys s ∧ (s.sp = [] → nextOf s = s.pages) ∧ (0 < room m s → nextOf s < (m : Int)) := by
  have h1 := h.pg2
  have h2 := h.nwp
  have h3 := h.nwm
  unfold nextOf room
  rw [h.l]
  by_cases hs : 0 < s.sp.length
  · rw [if_pos hs]
    have hm := el_mem hs
    have hb := h.sps _ hm
    exact ⟨hb.1, by omega, h.apart _ hm, (fun e => by rw [e] at hs; simp at hs), fun _ => by omega⟩
  · rw [if_neg hs]
    simp only [List.length_nil, Nat.lt_irrefl, if_false]
    refine ⟨by omega, by omega, fun hk => ?_, fun _ => trivial, fun hr => by omega⟩
    have := h.keys _ hk
    omega

theorem ridA_not {t : Int} {A : List (Int × Value)} (h : t ∉ A.map (·.1)) : ridA t A = A := List.filter_eq_self.2 (fun x hx => by
  simp
  intro e
  exact h (List.mem_map.2 ⟨x, hx, e⟩))

theorem rid_not {t : Int} {L : List Int} (h : t ∉ L) : rid t L = L := List.filter_eq_self.2 (fun x hx => by
  simp
  intro e
  exact h (e ▸ hx))

/-- What Make of a page that may be sealed does. -/
theorem OvJ.make {kd n : Int} {b : ByteArray} {e : Ending} (h : OvJ m k s) (hc : sealCode (nextOf s) n kd b = 0) (hM : MakeR s kd n b e s') :
    (room m s = 0 ∧ e = .returned (.tuple #[.int .i64 0, .int .i64 10]) ∧ s' = s) ∨
    (0 < room m s ∧ e = .returned (.tuple #[.int .i64 (nextOf s), .int .i64 0]) ∧ OvJ m (k + 1) s' ∧ s'.A = (nextOf s, pgv kd n b) :: s.A ∧ room m s' + 1 = room m s ∧ s'.W = rid (nextOf s) s.W ∧
      (s.sp ≠ [] → s'.pages = s.pages) ∧ s'.sp.length = s.sp.length - 1) := by
  obtain ⟨hn2, hnm, hnk, hnp, hnr⟩ := h.next
  have hp2 := h.pg2
  have hnwp := h.nwp
  have hnwm := h.nwm
  rcases hM with ⟨h1, _⟩ | ⟨_, h1, _, h2, he, hs⟩ | ⟨_, s1, hT, he, hs⟩
  · exact absurd hc h1
  · refine .inl ⟨?_, he, hs⟩
    unfold room
    rw [h.most] at h2
    rw [h1]
    simp
    omega
  · refine .inr ?_
    have hrA : ridA (nextOf s) s.A = s.A := ridA_not hnk
    rcases hT with ⟨sp', h1, _, rfl, hp⟩ | ⟨_, _, h1, _⟩ | ⟨h1, _, h2, _, rfl⟩ | ⟨_, _, _, h1, _⟩
    · have hnd := (hp.nodup_iff).2 h.spn
      have hnd2 := List.nodup_cons.1 hnd
      have hlen := hp.length_eq
      rw [List.length_cons] at hlen
      have hbn : 2 ≤ nextOf s ∧ nextOf s < (s.pages : Int) := h.sps _ (hp.subset List.mem_cons_self)
      subst hs
      refine ⟨(by unfold room; omega), he, ⟨h.base, h.most, h.l, h.pg2, h.nwp, h.nwm, ?_, ?_, ?_, hnd2.2, ?_, ?_, ?_, ?_⟩, ?_, ?_, rfl, fun _ => rfl, ?_⟩
      · show ∀ t ∈ ((nextOf s, pgv kd n b) :: ridA (nextOf s) s.A).map (·.1), 2 ≤ t ∧ t < (s.pages : Int)
        rw [hrA, List.map_cons]
        intro t ht
        rcases List.mem_cons.1 ht with rfl | ht
        · exact hbn
        · exact h.keys t ht
      · show (((nextOf s, pgv kd n b) :: ridA (nextOf s) s.A).map (·.1)).Nodup
        rw [hrA, List.map_cons]
        exact List.nodup_cons.2 ⟨hnk, h.knd⟩
      · intro t ht
        exact h.sps t (hp.subset (List.mem_cons_of_mem _ ht))
      · show ∀ t ∈ sp', t ∉ ((nextOf s, pgv kd n b) :: ridA (nextOf s) s.A).map (·.1)
        rw [hrA, List.map_cons]
        intro t ht hk
        rcases List.mem_cons.1 hk with rfl | hk
        · exact hnd2.1 ht
        · exact h.apart t (hp.subset (List.mem_cons_of_mem _ ht)) hk
      · show AllPg ((nextOf s, pgv kd n b) :: ridA (nextOf s) s.A)
        rw [hrA]
        intro x hx
        rcases List.mem_cons.1 hx with rfl | hx
        · exact ⟨kd, n, b, rfl⟩
        · exact h.pg x hx
      · show s.nm + 1 ≤ k + 1
        have := h.nm
        omega
      · show sp'.length + ((nextOf s, pgv kd n b) :: ridA (nextOf s) s.A).length + 2 = s.pages
        rw [hrA, List.length_cons]
        have := h.cnt
        omega
      · show (nextOf s, pgv kd n b) :: ridA (nextOf s) s.A = _
        rw [hrA]
      · show sp'.length + (m - s.pages) + 1 = s.sp.length + (m - s.pages)
        omega
      · show sp'.length = s.sp.length - 1
        omega
    · rw [h.l] at h1
      simp at h1
    · rw [h.most] at h2
      have e := hnp h1
      subst hs
      refine ⟨(by unfold room; omega), he, ⟨h.base, h.most, h.l, ?_, ?_, ?_, ?_, ?_, ?_, h.spn, ?_, ?_, ?_, ?_⟩, ?_, ?_, rfl, fun hh => absurd h1 hh, ?_⟩
      · show 2 ≤ s.pages + 1
        omega
      · show s.pages + 1 ≤ (s.nw ++ List.replicate (s.pages + 1 - s.nw.length) page0).length
        rw [List.length_append, List.length_replicate]
        omega
      · show (s.nw ++ List.replicate (s.pages + 1 - s.nw.length) page0).length ≤ m
        rw [List.length_append, List.length_replicate]
        omega
      · show ∀ t ∈ ((nextOf s, pgv kd n b) :: ridA (nextOf s) s.A).map (·.1), 2 ≤ t ∧ t < ((s.pages + 1 : Nat) : Int)
        rw [hrA, List.map_cons]
        intro t ht
        rcases List.mem_cons.1 ht with rfl | ht
        · exact ⟨by omega, by show nextOf s < _; omega⟩
        · have := h.keys t ht
          omega
      · show (((nextOf s, pgv kd n b) :: ridA (nextOf s) s.A).map (·.1)).Nodup
        rw [hrA, List.map_cons]
        exact List.nodup_cons.2 ⟨hnk, h.knd⟩
      · show ∀ t ∈ s.sp, 2 ≤ t ∧ t < ((s.pages + 1 : Nat) : Int)
        rw [h1]
        intro t ht
        cases ht
      · show ∀ t ∈ s.sp, t ∉ ((nextOf s, pgv kd n b) :: ridA (nextOf s) s.A).map (·.1)
        rw [h1]
        intro t ht
        cases ht
      · show AllPg ((nextOf s, pgv kd n b) :: ridA (nextOf s) s.A)
        rw [hrA]
        intro x hx
        rcases List.mem_cons.1 hx with rfl | hx
        · exact ⟨kd, n, b, rfl⟩
        · exact h.pg x hx
      · show s.nm + 1 ≤ k + 1
        have := h.nm
        omega
      · show s.sp.length + ((nextOf s, pgv kd n b) :: ridA (nextOf s) s.A).length + 2 = s.pages + 1
        rw [hrA, List.length_cons]
        have := h.cnt
        omega
      · show (nextOf s, pgv kd n b) :: ridA (nextOf s) s.A = _
        rw [hrA]
      · show s.sp.length + (m - (s.pages + 1)) + 1 = s.sp.length + (m - s.pages)
        omega
      · show s.sp.length = s.sp.length - 1
        rw [h1]
        rfl
    · injection h1 with h1
      injection h1 with h1
      have h9 := congrArg (fun a : Array Value => a[1]?) h1
      simp at h9

theorem rid_length {t : Int} : ∀ {A : List (Int × Value)}, t ∈ A.map (·.1) → (A.map (·.1)).Nodup → (ridA t A).length + 1 = A.length
  | [], h, _ => by cases h
  | x :: A, h, hn => by
    rw [List.map_cons] at h hn
    obtain ⟨h1, h2⟩ := List.nodup_cons.1 hn
    by_cases e : x.1 = t
    · have h3 : t ∉ A.map (·.1) := by rw [← e]; exact h1
      have h4 : ridA t (x :: A) = ridA t A := by unfold ridA; rw [List.filter_cons_of_neg (by simp [e])]
      rw [h4, ridA_not h3, List.length_cons]
    · have h4 : ridA t (x :: A) = x :: ridA t A := by unfold ridA; rw [List.filter_cons_of_pos (by simp [e])]
      have h5 : t ∈ A.map (·.1) := by
        rcases List.mem_cons.1 h with h | h
        · exact absurd h.symm e
        · exact h
      rw [h4, List.length_cons, List.length_cons, rid_length h5 h2]

theorem OvJ.drop {id : Int} (h : OvJ m k s) (hid : id ∈ kys s) (hD : DropO s id s') : OvJ m (k + 1) s' ∧ s'.A = ridA id s.A ∧ s'.pages = s.pages ∧ s'.sp.length = s.sp.length + 1 ∧ s'.W = id :: rid id s.W := by
  obtain ⟨hb2, hbp⟩ := h.keys id hid
  have hkr : ∀ t, t ∈ (ridA id s.A).map (·.1) → t ∈ kys s ∧ t ≠ id := fun t ht => by
    rw [ridA_keys] at ht
    exact mem_rid.1 ht
  rcases hD with ⟨h1, _⟩ | ⟨_, sp', hp, rfl⟩
  · rw [h.base] at h1
    omega
  · have hms : ∀ t ∈ sp', t ∈ s.sp ∨ t = id := fun t ht => by
      have := hp.subset ht
      simpa using this
    have hlen := hp.length_eq
    rw [List.length_append] at hlen
    refine ⟨⟨h.base, h.most, h.l, h.pg2, h.nwp, h.nwm, ?_, ?_, ?_, ?_, ?_, ?_, ?_, ?_⟩, rfl, rfl, hlen, rfl⟩
    · exact fun t ht => h.keys t (hkr t ht).1
    · show ((ridA id s.A).map (·.1)).Nodup
      rw [ridA_keys]
      exact h.knd.filter _
    · intro t ht
      rcases hms t ht with h1 | rfl
      · exact h.sps t h1
      · exact ⟨hb2, hbp⟩
    · show sp'.Nodup
      rw [hp.nodup_iff]
      refine List.nodup_append.2 ⟨h.spn, by simp, fun a ha b hb => ?_⟩
      have hb : b = id := by simpa using hb
      subst hb
      exact fun e => h.apart a ha (e ▸ hid)
    · intro t ht hk
      have hk := hkr t hk
      rcases hms t ht with h1 | h1
      · exact h.apart t h1 hk.1
      · exact hk.2 h1
    · exact fun x hx => h.pg x (mem_ridA.1 hx).1
    · show s.nm + 1 ≤ k + 1
      have := h.nm
      omega
    · show sp'.length + (ridA id s.A).length + 2 = s.pages
      have := rid_length hid h.knd
      have := h.cnt
      rw [hlen]
      simp only [List.length_cons, List.length_nil]
      omega
end

/-- A chain's pages and what they bear. -/
def entOf : List Int → List ByteArray → List (Int × Value)
  | i :: is, p :: ps => (i, pgv 4 (is.headD 0) p) :: entOf is ps
  | _, _ => []
theorem entOf_keys : ∀ {is : List Int} {ps : List ByteArray}, is.length = ps.length → (entOf is ps).map (·.1) = is
  | [], [], _ => rfl
  | [], _ :: _, h => by simp at h
  | _ :: _, [], h => by simp at h
  | i :: is, p :: ps, h => by
    rw [entOf, List.map_cons, entOf_keys (by simpa using h)]
def Chain (A : List (Int × Value)) (is : List Int) (ps : List ByteArray) : Prop := is.length = ps.length ∧ ∀ x ∈ entOf is ps, x ∈ A
theorem val_uniq {A : List (Int × Value)} (hn : (A.map (·.1)).Nodup) {t : Int} {u v : Value} (h1 : (t, u) ∈ A) (h2 : (t, v) ∈ A) : u = v := by
  induction A with
  | nil => cases h1
  | cons x A ih =>
    rw [List.map_cons] at hn
    obtain ⟨h3, h4⟩ := List.nodup_cons.1 hn
    rcases List.mem_cons.1 h1 with e1 | h1
    · rcases List.mem_cons.1 h2 with e2 | h2
      · rw [← e1] at e2
        injection e2 with _ e2
        exact e2.symm
      · exact absurd (List.mem_map.2 ⟨_, h2, by rw [← e1]⟩) h3
    · rcases List.mem_cons.1 h2 with e2 | h2
      · exact absurd (List.mem_map.2 ⟨_, h1, by rw [← e2]⟩) h3
      · exact ih h4 h1 h2

/-- The j-th page of a chain. -/
theorem entOf_at : ∀ {is : List Int} {ps : List ByteArray} (j : Nat), is.length = ps.length → j < is.length → (HL.el is j, pgv 4 ((is.drop (j + 1)).headD 0) (ps.getD j default)) ∈ entOf is ps
  | [], _, j, _, h => by simp at h
  | _ :: _, [], j, h, _ => by simp at h
  | i :: is, p :: ps, 0, h, _ => by
    rw [entOf]
    exact List.mem_cons_self
  | i :: is, p :: ps, j + 1, h, h2 => by
    rw [entOf]
    refine List.mem_cons_of_mem _ ?_
    have e := entOf_at (is := is) (ps := ps) j (by simpa using h) (by simpa using h2)
    simpa [HL.el] using e
theorem Chain.at {A : List (Int × Value)} {is : List Int} {ps : List ByteArray} (h : Chain A is ps) (j : Nat) (hj : j < is.length) : (HL.el is j, pgv 4 ((is.drop (j + 1)).headD 0) (ps.getD j default)) ∈ A := h.2 _ (entOf_at j h.1 hj)
theorem Chain.keep {A A' : List (Int × Value)} {is : List Int} {ps : List ByteArray} (h : Chain A is ps) (hk : ∀ i ∈ is, ∀ v, (i, v) ∈ A → (i, v) ∈ A') : Chain A' is ps := by
  refine ⟨h.1, fun x hx => ?_⟩
  have hm : x.1 ∈ is := by
    rw [← entOf_keys h.1]
    exact List.mem_map.2 ⟨x, hx, rfl⟩
  exact hk x.1 hm x.2 (h.2 x hx)
end Go.Proofs.YtlocadmiomglaaaGreatDoor
