/- Merged texts: GMap GPg GBase GClear. -/
import Derived.Test.YtlocadmiomglaaaGreatDoorB1
import Derived.Maps.OwnSet
import Derived.Maps.Keyed
import Derived.Maps.Views
import Derived.Lib.SlKeysI
import Derived.Test.YtlocadmiomglaaaGreatDoorB3
import Derived.Test.YtlocadmiomglaaaGreatDoorB5
import Derived.Test.YtlocadmiomglaaaGreatDoorB7
import Derived.OwnWalk
import Derived.Laws.IdiomStrings
import Derived.Laws.AppendOwnNone
import Derived.Carry
/- Maps with keys that are ints, as lists (of pairs; of keys). -/
namespace Go.Proofs.YtlocadmiomglaaaGreatDoor
open Go.RowKit Go.Maps

def IntM {H : Type} (D : DataW H) : Prop := ∃ es, D = .map es ∧ ∀ p ∈ es, ∃ x, p.1 = .int .i64 x
theorem key_lit (t : Int) : WideAt.IsKeyLit (.int .i64 t) := trivial
theorem key_ne {a b : Int} (h : a ≠ b) : (Lit.int .i64 a) ≠ .int .i64 b := fun e => h (by injection e)

section
variable {H : Type} {D : DataW H}
theorem mem_ins {x p : Lit × DataW H} : ∀ {l : List (Lit × DataW H)}, p ∈ DataW.insert x l → p = x ∨ p ∈ l
  | [], h => by
    simp only [DataW.insert, List.mem_singleton] at h
    exact .inl h
  | y :: r, h => by
    unfold DataW.insert at h
    split at h
    · rcases List.mem_cons.1 h with h | h
      · exact .inl h
      · exact .inr h
    · rcases List.mem_cons.1 h with h | h
      · exact .inr (by rw [h]; exact List.mem_cons_self)
      · exact (mem_ins h).imp id (List.mem_cons_of_mem _)
theorem IntM.put (h : IntM D) (t : Int) (d : DataW H) : IntM (D.put (.int .i64 t) d) := by
  obtain ⟨es, rfl, h⟩ := h
  refine ⟨_, rfl, fun p hp => ?_⟩
  rcases mem_ins hp with rfl | hp
  · exact ⟨t, rfl⟩
  · exact h p (List.mem_filter.1 hp).1
theorem IntM.del (h : IntM D) (k : Lit) : IntM (D.del k) := by
  obtain ⟨es, rfl, h⟩ := h
  exact ⟨_, rfl, fun p hp => h p (List.mem_filter.1 hp).1⟩

/-- D's keys are those of L. -/
structure SetR (L : List Int) (D : DataW H) : Prop where
  int : IntM D
  tidy : Tidy D
  mem : ∀ t, has D (.int .i64 t) = decide (t ∈ L)
  nodup : L.Nodup

def rid (t : Int) (L : List Int) : List Int := L.filter (fun x => !decide (x = t))
theorem mem_rid {t u : Int} {L : List Int} : u ∈ rid t L ↔ u ∈ L ∧ u ≠ t := by simp [rid]
theorem SetR.nil : SetR [] (.map [] : DataW H) := ⟨⟨[], rfl, fun _ h => by cases h⟩, tidy_empty, fun _ => rfl, List.nodup_nil⟩
theorem SetR.put {L : List Int} (h : SetR L D) (t : Int) (d : DataW H) : SetR (t :: rid t L) (D.put (.int .i64 t) d) := by
  refine ⟨h.int.put t d, h.tidy.put (key_lit t) d, fun u => ?_, List.nodup_cons.2 ⟨by simp [mem_rid], h.nodup.filter _⟩⟩
  by_cases e : u = t
  · subst e
    rw [has_put_same h.tidy.isMap (key_lit u)]
    simp
  · rw [has_put_other (key_ne e), h.mem u]
    simp [mem_rid, e]
theorem SetR.del {L : List Int} (h : SetR L D) (t : Int) : SetR (rid t L) (D.del (.int .i64 t)) := by
  refine ⟨h.int.del _, h.tidy.del _, fun u => ?_, h.nodup.filter _⟩
  by_cases e : u = t
  · subst e
    rw [has_del_same]
    simp [mem_rid]
  · rw [has_del_other (key_ne e), h.mem u]
    simp [mem_rid, e]
theorem SetR.keys {L : List Int} (h : SetR L D) : L.Perm (intKeys D) := by
  obtain ⟨es, rfl, hpw⟩ := h.tidy
  obtain ⟨es', e, hk⟩ := h.int
  injection e with e
  subst e
  exact perm_intKeys hpw hk h.nodup (fun x => by rw [h.mem x]; simp)
end

/-- How a value reads: as itself. -/
abbrev DP := DataW Value
def heldR (v : Value) : Option (DP × List MemPlace) := some (.held v, [])
/-- D is the map A. -/
structure MapR (A : List (Int × Value)) (D : DP) : Prop where
  set : SetR (A.map (·.1)) D
  val : ∀ t v z, (t, v) ∈ A → D.atKey (.int .i64 t) z = .held v
def ridA (t : Int) (A : List (Int × Value)) : List (Int × Value) := A.filter (fun x => !decide (x.1 = t))
theorem ridA_keys (t : Int) (A : List (Int × Value)) : (ridA t A).map (·.1) = rid t (A.map (·.1)) := by
  unfold ridA rid
  rw [List.filter_map]
  rfl
theorem mem_ridA {t : Int} {x : Int × Value} {A : List (Int × Value)} : x ∈ ridA t A ↔ x ∈ A ∧ x.1 ≠ t := by simp [ridA]
theorem MapR.nil : MapR [] (.map []) := ⟨SetR.nil, fun _ _ _ h => by cases h⟩
theorem MapR.put {A : List (Int × Value)} {D : DP} (h : MapR A D) (t : Int) (v : Value) : MapR ((t, v) :: ridA t A) (D.put (.int .i64 t) (.held v)) := by
  refine ⟨by rw [List.map_cons, ridA_keys]; exact h.set.put t _, fun u x z hx => ?_⟩
  rcases List.mem_cons.1 hx with e | hx
  · injection e with e1 e2
    subst e1 e2
    exact atKey_put_same h.set.tidy.isMap (key_lit _) _ _
  · obtain ⟨hx, hne⟩ := mem_ridA.1 hx
    rw [atKey_put_other (key_ne hne)]
    exact h.val u x z hx
theorem MapR.del {A : List (Int × Value)} {D : DP} (h : MapR A D) (t : Int) : MapR (ridA t A) (D.del (.int .i64 t)) := by
  refine ⟨by rw [ridA_keys]; exact h.set.del t, fun u x z hx => ?_⟩
  obtain ⟨hx, hne⟩ := mem_ridA.1 hx
  rw [atKey_del_other (key_ne hne)]
  exact h.val u x z hx

section
variable {w : World} {b n : Nat}
theorem keyedI : Go.Maps.Keyed Tryz.prog 3 := Go.Maps.int_keyed Tryz.underlying3
theorem key_of {t : Int} (ht : (Lit.int .i64 t).wf = true) : keyOf Tryz.prog 3 (.int .i64 t) = some (.int .i64 t) := by
  simp [keyOf, Tryz.underlying3, mapKey, ht]
theorem fr_turn {w' : World} (h : w.mapTurned w' b) : Fr (fun k => k = b) w w' := Fr.of_grown h.grown (fun i _ e => by cases e; rfl)
end
end Go.Proofs.YtlocadmiomglaaaGreatDoor

/- pager's Pager as a whole: its parts, each with its blocks. -/
namespace Go.Proofs.YtlocadmiomglaaaGreatDoor
open Go.RowKit Go.Maps Go.Conc

structure PgS where
  db : Nat
  dbase : Nat
  most : Int
  sy : List ByteArray
  nw : List ByteArray
  wr : List Wr
  fb : Nat
  fbase : Nat
  l : List Int
  fw : List (Int × Int)
  base : Nat
  pages : Nat
  txn : Int
  bm : Nat
  bd : Nat
  bw : Nat
  nm : Nat
  A : List (Int × Value)
  D : List Int
  W : List Int
  sb : Nat
  sbase : Nat
  sp : List Int

/-- The cells of the pager's own block. -/
structure PgC (pb db fb base pages : Nat) (txn : Int) (bm bd bw sb : Nat) (w : World) : Prop where
  c0 : w.cell? ⟨pb, 0, none⟩ = some (.pointer (some ⟨db, 0, none⟩))
  c1 : w.cell? ⟨pb, 1, none⟩ = some (.pointer (some ⟨fb, 0, none⟩))
  c2 : w.cell? ⟨pb, 2, none⟩ = some (.int .i64 base)
  c3 : w.cell? ⟨pb, 3, none⟩ = some (.int .i64 pages)
  c4 : w.cell? ⟨pb, 4, none⟩ = some (.int .i64 txn)
  c5 : w.cell? ⟨pb, 5, none⟩ = some (.map (some bm))
  c6 : w.cell? ⟨pb, 6, none⟩ = some (.map (some bd))
  c7 : w.cell? ⟨pb, 7, none⟩ = some (.map (some bw))
  c8 : w.cell? ⟨pb, 8, none⟩ = some (.pointer (some ⟨sb, 0, none⟩))
  fz : ∀ k, k < 9 → w.frozen? ⟨pb, k, none⟩ = false

def unitM (b n : Nat) (L : List Int) (w : World) : Prop := ∃ D : DU, w.ownsMap Tryz.prog 3 unitElem b n D ∧ SetR L D
def heldM (b n : Nat) (A : List (Int × Value)) (w : World) : Prop := ∃ D : DP, w.ownsMap Tryz.prog 3 heldR b n D ∧ MapR A D
def spare (sb sbase : Nat) (sp : List Int) (F : Nat → Prop) (w : World) : Prop := ∃ v, PileI sb sbase v sp w ∧ F = pileF sb v ∧ sbase ≤ sb

/-- The i-th part, its blocks being F. -/
def Part (pb : Nat) (s : PgS) (i : Nat) (F : Nat → Prop) (w : World) : Prop :=
  match i with
  | 0 => PgC pb s.db s.fb s.base s.pages s.txn s.bm s.bd s.bw s.sb w ∧ F = fun k => k = pb
  | 1 => Dv s.db s.dbase s.most true false 0 s.sy s.nw s.wr F w
  | 2 => Fe s.fb s.fbase s.l s.fw 0 (.map []) F w
  | 3 => heldM s.bm s.nm s.A w ∧ F = fun k => k = s.bm
  | 4 => unitM s.bd s.nm s.D w ∧ F = fun k => k = s.bd
  | 5 => unitM s.bw s.nm s.W w ∧ F = fun k => k = s.bw
  | 6 => spare s.sb s.sbase s.sp F w
  | _ => F = fun _ => False

theorem unitM.lt {b n : Nat} {L : List Int} {w : World} (h : unitM b n L w) : b < w.heap.size := by
  obtain ⟨D, h, _⟩ := h
  exact h.lt
theorem heldM.lt {b n : Nat} {A : List (Int × Value)} {w : World} (h : heldM b n A w) : b < w.heap.size := by
  obtain ⟨D, h, _⟩ := h
  exact h.lt
theorem own_map_fr {H : Type} {k : TypeId} {R : Value → Option (DataW H × List MemPlace)} {b n : Nat} {D : DataW H} {S : Nat → Prop} {w w' : World} (h : w.ownsMap Tryz.prog k R b n D) (hF : Fr S w w') (hS : ¬ S b) : w'.ownsMap Tryz.prog k R b n D := by
  have hlt := h.lt
  obtain ⟨es, clock, hb, hr⟩ := h
  exact ⟨es, clock, (hF.block b hlt hS).trans hb, hr⟩
theorem unitM.keep {b n : Nat} {L : List Int} {S : Nat → Prop} {w w' : World} (h : unitM b n L w) (hF : Fr S w w') (hS : ¬ S b) : unitM b n L w' := by
  obtain ⟨D, h, h2⟩ := h
  exact ⟨D, own_map_fr h hF hS, h2⟩
theorem heldM.keep {b n : Nat} {A : List (Int × Value)} {S : Nat → Prop} {w w' : World} (h : heldM b n A w) (hF : Fr S w w') (hS : ¬ S b) : heldM b n A w' := by
  obtain ⟨D, h, h2⟩ := h
  exact ⟨D, own_map_fr h hF hS, h2⟩
theorem unitM.mono {b n m : Nat} {L : List Int} {w : World} (h : unitM b n L w) (hn : n ≤ m) : unitM b m L w := by
  obtain ⟨D, h, h2⟩ := h
  exact ⟨D, h.mono hn, h2⟩
theorem heldM.mono {b n m : Nat} {A : List (Int × Value)} {w : World} (h : heldM b n A w) (hn : n ≤ m) : heldM b m A w := by
  obtain ⟨D, h, h2⟩ := h
  exact ⟨D, h.mono hn, h2⟩
theorem PgC.keep {pb db fb base pages bm bd bw sb : Nat} {txn : Int} {S : Nat → Prop} {w w' : World} (h : PgC pb db fb base pages txn bm bd bw sb w) (hF : Fr S w w') (hS : ¬ S pb) : PgC pb db fb base pages txn bm bd bw sb w' := by
  have hlt := cell_lt h.c0
  have hc : ∀ k, w'.cell? ⟨pb, k, none⟩ = w.cell? ⟨pb, k, none⟩ := fun k => hF.cell (p := ⟨pb, k, none⟩) hlt hS
  exact ⟨(hc 0).trans h.c0, (hc 1).trans h.c1, (hc 2).trans h.c2, (hc 3).trans h.c3, (hc 4).trans h.c4, (hc 5).trans h.c5, (hc 6).trans h.c6, (hc 7).trans h.c7, (hc 8).trans h.c8, fun k hk => (hF.frozen (p := ⟨pb, k, none⟩) hlt hS).trans (h.fz k hk)⟩

theorem PileI.lt4 {pb base : Nat} {v : Value} {l : List Int} {w : World} (h : PileI pb base v l w) : ∀ k, pileF pb v k → k < w.heap.size := by
  rintro k (rfl | hk)
  · exact cell_lt h.1.1
  · exact (h.1.2.2.1.lt k hk).2

theorem Part.lt {pb : Nat} {s : PgS} {i : Nat} {F : Nat → Prop} {w : World} (h : Part pb s i F w) : ∀ k, F k → k < w.heap.size := by
  match i, h with
  | 0, h =>
    obtain ⟨h0, rfl⟩ := (h : PgC pb s.db s.fb s.base s.pages s.txn s.bm s.bd s.bw s.sb w ∧ F = fun k => k = pb)
    rintro k rfl
    exact cell_lt h0.c0
  | 1, h => exact Dv.lt h
  | 2, h => exact Fe.lt h
  | 3, h =>
    obtain ⟨h0, rfl⟩ := (h : heldM s.bm s.nm s.A w ∧ F = fun k => k = s.bm)
    rintro k rfl
    exact heldM.lt h0
  | 4, h =>
    obtain ⟨h0, rfl⟩ := (h : unitM s.bd s.nm s.D w ∧ F = fun k => k = s.bd)
    rintro k rfl
    exact unitM.lt h0
  | 5, h =>
    obtain ⟨h0, rfl⟩ := (h : unitM s.bw s.nm s.W w ∧ F = fun k => k = s.bw)
    rintro k rfl
    exact unitM.lt h0
  | 6, h =>
    obtain ⟨v, h0, rfl, _⟩ := (h : spare s.sb s.sbase s.sp F w)
    exact PileI.lt4 h0
  | n + 7, h =>
    have e : F = fun _ => False := h
    intro k hk
    rw [e] at hk
    exact hk.elim

theorem Part.keep {pb : Nat} {s : PgS} {i : Nat} {F S : Nat → Prop} {w w' : World} (h : Part pb s i F w) (hF : Fr S w w') (hS : ∀ k, F k → ¬ S k) : Part pb s i F w' := by
  match i, h with
  | 0, h =>
    obtain ⟨h0, rfl⟩ := (h : PgC pb s.db s.fb s.base s.pages s.txn s.bm s.bd s.bw s.sb w ∧ F = fun k => k = pb)
    exact ⟨PgC.keep h0 hF (hS pb rfl), rfl⟩
  | 1, h => exact Dv.keep h hF hS
  | 2, h => exact Fe.keep h hF hS
  | 3, h =>
    obtain ⟨h0, rfl⟩ := (h : heldM s.bm s.nm s.A w ∧ F = fun k => k = s.bm)
    exact ⟨heldM.keep h0 hF (hS _ rfl), rfl⟩
  | 4, h =>
    obtain ⟨h0, rfl⟩ := (h : unitM s.bd s.nm s.D w ∧ F = fun k => k = s.bd)
    exact ⟨unitM.keep h0 hF (hS _ rfl), rfl⟩
  | 5, h =>
    obtain ⟨h0, rfl⟩ := (h : unitM s.bw s.nm s.W w ∧ F = fun k => k = s.bw)
    exact ⟨unitM.keep h0 hF (hS _ rfl), rfl⟩
  | 6, h =>
    obtain ⟨v, h0, rfl, hb⟩ := (h : spare s.sb s.sbase s.sp F w)
    exact ⟨v, PileI.keep h0 hF hS, rfl, hb⟩
  | n + 7, h => exact h

structure PgI (pb base : Nat) (s : PgS) (Fs : Nat → Nat → Prop) (w : World) : Prop where
  part : ∀ i, Part pb s i (Fs i) w
  apart : ∀ i j k, i ≠ j → Fs i k → ¬ Fs j k
  ge : ∀ i k, Fs i k → base ≤ k
  bsz : base ≤ w.heap.size

/-- A pager (U: all its blocks). -/
def Pg (pb base : Nat) (s : PgS) (U : Nat → Prop) (w : World) : Prop := ∃ Fs, PgI pb base s Fs w ∧ U = fun k => ∃ i, Fs i k

section
variable {pb base : Nat} {s : PgS} {U : Nat → Prop} {w w' : World}

theorem Pg.keep {S : Nat → Prop} (h : Pg pb base s U w) (hF : Fr S w w') (hS : ∀ k, U k → ¬ S k) : Pg pb base s U w' := by
  obtain ⟨Fs, h, rfl⟩ := h
  exact ⟨Fs, ⟨fun i => (h.part i).keep hF (fun k hk => hS k ⟨i, hk⟩), h.apart, h.ge, Nat.le_trans h.bsz hF.size⟩, rfl⟩
theorem Pg.below (h : Pg pb base s U w) (hb : Below w.heap.size w w') : Pg pb base s U w' := h.keep (Fr.of_all (S := fun _ => False) hb) (fun _ _ h => h)
theorem Pg.lt (h : Pg pb base s U w) : ∀ k, U k → k < w.heap.size := by
  obtain ⟨Fs, h, rfl⟩ := h
  rintro k ⟨i, hk⟩
  exact (h.part i).lt k hk
theorem Pg.ge (h : Pg pb base s U w) : ∀ k, U k → base ≤ k := by
  obtain ⟨Fs, h, rfl⟩ := h
  rintro k ⟨i, hk⟩
  exact h.ge i k hk

/-- The i-th part turned into another. -/
theorem PgI.turn {Fs : Nat → Nat → Prop} {s' : PgS} {F' : Nat → Prop} (i : Nat) (h : PgI pb base s Fs w) (hs : ∀ j, j ≠ i → ∀ F W, Part pb s j F W → Part pb s' j F W) (hP : Part pb s' i F' w') (hS : Step (Fs i) F' w w') :
    ∃ U', Pg pb base s' U' w' ∧ Step (fun k => ∃ j, Fs j k) U' w w' := by
  refine ⟨_, ⟨fun j => if j = i then F' else Fs j, ⟨fun j => ?_, fun a b k hab ha hb => ?_, fun a k ha => ?_, Nat.le_trans h.bsz hS.1.size⟩, rfl⟩, hS.1.mono (fun k _ hk => ⟨i, hk⟩), ?_⟩
  · show Part pb s' j (if j = i then F' else Fs j) w'
    by_cases e : j = i
    · rw [if_pos e, e]
      exact hP
    · rw [if_neg e]
      exact hs j e _ _ ((h.part j).keep hS.1 (fun k hk => h.apart j i k e hk))
  · change (if a = i then F' else Fs a) k at ha
    change (if b = i then F' else Fs b) k at hb
    by_cases e1 : a = i
    · rw [if_pos e1] at ha
      rw [if_neg (fun e => hab (e1.trans e.symm))] at hb
      rcases hS.2 k ha with h1 | h1
      · exact h.apart i b k (fun e => hab (e1.trans e)) h1 hb
      · have := (h.part b).lt k hb
        omega
    · rw [if_neg e1] at ha
      by_cases e2 : b = i
      · rw [if_pos e2] at hb
        rcases hS.2 k hb with h1 | h1
        · exact h.apart a i k e1 ha h1
        · have := (h.part a).lt k ha
          omega
      · rw [if_neg e2] at hb
        exact h.apart a b k hab ha hb
  · change (if a = i then F' else Fs a) k at ha
    by_cases e1 : a = i
    · rw [if_pos e1] at ha
      rcases hS.2 k ha with h1 | h1
      · exact h.ge i k h1
      · have := h.bsz
        omega
    · rw [if_neg e1] at ha
      exact h.ge a k ha
  · rintro k ⟨j, hk⟩
    change (if j = i then F' else Fs j) k at hk
    by_cases e1 : j = i
    · rw [if_pos e1] at hk
      exact (hS.2 k hk).imp (fun h1 => ⟨i, h1⟩) id
    · rw [if_neg e1] at hk
      exact .inl ⟨j, hk⟩
end
end Go.Proofs.YtlocadmiomglaaaGreatDoor

/- arboretumlaw7.Base, of no free pages: a device, an empty Free; the document's own stand beside. -/
namespace Go.Proofs.YtlocadmiomglaaaGreatDoor
open Go.RowKit Go.Maps Go.Conc

set_option maxRecDepth 100000 in
theorem ref_newdev (m : Int) (w : World) (h1 : 1 ≤ m) (h2 : m ≤ 3000) : Calls Tryz.prog 38 #[.int .i64 m] w fun e w' => e = .returned (.tuple #[.pointer (some ⟨w.heap.size, 0, none⟩), .int .i64 0]) ∧ w' = w.alloc (.cells #[.int .i64 m, .bool true, .slice none 0 0, .slice none 0 0, .int .i64 (-1)] 114) := by
  have g1 : ¬ m < 1 := by omega
  have g2 : ¬ 3000 < m := by omega
  go_enter Tryz.func38, Tryz.ntmps38
  go_wp2
  go_ret2
  exact ⟨rfl, rfl⟩

set_option maxRecDepth 100000 in
theorem ref_op (rb : Nat) (w : World) (c1 : w.cell? ⟨rb, 1, none⟩ = some (.bool true)) (c4 : w.cell? ⟨rb, 4, none⟩ = some (.int .i64 (-1))) : Calls Tryz.prog 120 #[.pointer (some ⟨rb, 0, none⟩)] w fun e w' => e = .returned (.tuple #[.bool true, .bool true]) ∧ w' = w := by
  go_enter Tryz.func120, Tryz.ntmps120
  go_wp2
  go_ret2
  exact ⟨rfl, rfl⟩

set_option maxRecDepth 100000 in
theorem ref_sorted_nil (w : World) : Calls Tryz.prog 42 #[.slice none 0 0] w fun e w' => e = .returned (.slice none 0 0) ∧ w' = w := by
  go_enter Tryz.func42, Tryz.ntmps42
  go_wp2
  go_loopw [3, 4] (fun tv iv wr => tv = .slice none 0 0 ∧ iv = .int .i64 0 ∧ wr = w) (fun _ _ _ => 0)
  case atStart => exact ⟨rfl, rfl, rfl⟩
  case round =>
    obtain ⟨rfl, rfl, rfl⟩ := hrel
    go_wp2
    go_ret
    exact ⟨rfl, rfl⟩

set_option maxRecDepth 100000 in
theorem info_str1 : (Tryz.prog.info? 9).map (fun i => (i.zero, i.size, i.bytes)) = some (some (.string ByteArray.empty), 1, 16) := by kernel_rfl
set_option maxRecDepth 100000 in
theorem info_byte1 : (Tryz.prog.info? 5).map (fun i => (i.zero, i.size, i.bytes)) = some (some (.int .u8 0), 1, 1) := by kernel_rfl

def nought256 : List UInt8 := List.replicate 256 0
theorem nought_cell (j : Nat) (hj : j < 256) (h : j < nought256.length) : (madeCells (Value.int .u8 0).cells (256 * 1)).toList[j]? = some (.int .u8 ((nought256[j]).toNat : Int)) := by
  have e : nought256[j] = 0 := List.eq_of_mem_replicate (List.getElem_mem h)
  rw [e]
  unfold madeCells
  rw [Array.toList_map, List.getElem?_map, Array.toList_range, List.getElem?_range (by omega)]
  simp [Value.cells, Nat.mod_one]
theorem nought256_length : nought256.length = 256 := by unfold nought256; rw [List.length_replicate]

theorem nought_conv (b base : Nat) (w2 : World) (ho : w2.ownsRow base 5 1 (.slice (some ⟨b, 0, none⟩) 256 256) 256 (madeCells (Value.int .u8 0).cells (256 * 1)).toList) :
    ∃ pg, (convert 90 9 (.slice (some ⟨b, 0, none⟩) 256 256)).run Tryz.prog w2 = .ok (.string pg) w2 := by
  have e := run_convert_bytes_back (P := Tryz.prog) w2 90 9 5 ⟨b, 0, none⟩ 256 nought256 Tryz.underlying90 Tryz.underlying5 Tryz.underlying9 (fun j hj => by
    refine ho.cells (g := b) rfl j _ ?_
    exact nought_cell j (by rw [nought256_length] at hj; exact hj) hj)
  rw [nought256_length] at e
  exact ⟨_, e⟩

set_option maxHeartbeats 2000000 in
set_option maxRecDepth 100000 in
/-- The document's Grow, of a device that was just made. -/
theorem ref_grow (rb : Nat) (m : Int) (n : Nat) (w : World) (c0 : w.cell? ⟨rb, 0, none⟩ = some (.int .i64 m)) (c1 : w.cell? ⟨rb, 1, none⟩ = some (.bool true)) (c2 : w.cell? ⟨rb, 2, none⟩ = some (.slice none 0 0)) (c4 : w.cell? ⟨rb, 4, none⟩ = some (.int .i64 (-1))) (f2 : w.frozen? ⟨rb, 2, none⟩ = false) (hn : (n : Int) ≤ m) (hm : m ≤ 3000) :
    Calls Tryz.prog 40 #[.pointer (some ⟨rb, 0, none⟩), .int .i64 n] w fun e w' => e = .returned (.int .i64 0) ∧ Fr (fun k => k = rb) w w' := by
  obtain ⟨i0, hi0, hz0, hz1, hz2⟩ := info_parts info_str1
  obtain ⟨j0, hj0, jz0, jz1, jz2⟩ := info_parts info_byte1
  have HOP := Lib.hid (ref_op rb w c1 c4)
  have g1 : ¬ ((n : Int) < 0) := by omega
  have g2 : ¬ (m < (n : Int)) := by omega
  have hlt := cell_lt c0
  go_enter Tryz.func40, Tryz.ntmps40
  go_wp2_with fail
  refine HOP.out.mono ?_
  rintro e w1 ⟨rfl, rfl⟩
  go_wp2_with (first
    | (at_builtin; refine wpList_append_own_none rfl _ _ 45 rfl w1.heap.size 9 i0 1 Tryz.underlying45 hi0 _ 0 [] rfl (World.ownsRow_nil _ _ _ _) rfl ?_)
    | fail)
  clear HOP
  have HST : Hid (w1.ownsRow w1.heap.size 9 1 (.slice none 0 0) 0 []) := Lib.hid (World.ownsRow_nil _ _ _ _)
  go_loopw [7] (fun tv wr => ∃ (k : Nat) (xs : List Value), k ≤ n ∧ Hid (wr.ownsRow w1.heap.size 9 1 tv k xs) ∧ Hid (Below w1.heap.size w1 wr)) (fun tv _ => match tv with | .slice _ k _ => n - k | _ => 0)
  case atStart => exact ⟨0, [], Nat.zero_le _, HST, Lib.hid (Below.refl _ _)⟩
  case round =>
    clear HST
    obtain ⟨k, xs, hk, ho, hb⟩ := hrel
    obtain ⟨tp, tc, rfl⟩ := owns_slice ho.out
    by_cases hlt2 : k < n
    · have hgo : (k : Int) < (n : Int) := by omega
      go_wp2_with (first
        | (refine wpList_make_full _ rfl _ _ _ rfl wr.heap.size 5 j0 _ 1 Tryz.underlying90 hj0 jz0 jz1 .i64 .i64 256 256 256 rfl rfl rfl rfl (by rw [jz2]; omega) (by unfold maxLen; omega) (Nat.le_refl _) ?_; intro w2 how hgr
           have hb2 : Below wr.heap.size wr w2 := (Below.refl _ wr).grown hgr (Nat.le_refl _) (fun k hk => by cases hk)
           have hb2s := hb2.size
           have HO2 : Hid (w2.ownsRow w1.heap.size 9 1 (.slice tp k tc) k xs) := Lib.hid ((Fr.of_all (S := fun _ => False) hb2).owns ho.out (fun _ _ h => h))
           have HB3 : Hid (Below w1.heap.size w1 w2) := Lib.hid (hb.out.trans (hb2.mono hb.out.size))
           have hsz := HB3.out.size
           obtain ⟨pg, hcv⟩ := nought_conv _ _ _ how; clear how hgr hb2)
        | (at_builtin; refine wpList_append_lies _ rfl _ _ 45 rfl w1.heap.size 9 i0 _ 1 16 Tryz.underlying45 hi0 hz0 hz1 hz2 rfl (by omega) _ k xs rfl ?own ⟨w2.heap.size, 0, none⟩ 1 1 [.string pg] rfl rfl ?cells ?one (by omega) ?len ?bytes ?base (w2.heap.size + 1) (by simp) ?_; (case own => exact HO2.out.alloc _); (case cells => exact new_cells w2 _ _); (case one => simp [Value.oneCell']); (case len => unfold maxLen; omega); (case bytes => omega); (case base => simp; omega); intro g cap w3 hown hgr hat hg; (have HO3 := Lib.hid hown); (have HB4 : Hid (Below w1.heap.size w1 w3) := Lib.hid ((HB3.out.alloc HB3.out.size _).grown hgr (by simp; omega) (fun k hk => (HO2.out.lt k hk).1))); clear hown hgr hat hg))
      go_roundw
      case rel => exact ⟨k + 1, _, by omega, HO3, HB4⟩
      case measure => simp; omega
    · obtain rfl : k = n := by omega
      have hgo : ¬ ((k : Int) < (k : Int)) := by omega
      have c2' := (hb.out.cell (p := ⟨rb, 2, none⟩) hlt).trans c2
      have f2' := (hb.out.frozen (p := ⟨rb, 2, none⟩) hlt).trans f2
      go_wp2
      go_ret
      exact ⟨rfl, (Fr.of_all (S := fun k => k = rb) hb.out).setCell (p := ⟨rb, 2, none⟩) (fun _ => rfl) _⟩

theorem results_tmp5 {fn : Func} {t u v x y : Tmp} (h : fn.results = #[.tmp t, .tmp u, .tmp v, .tmp x, .tmp y]) (tmps : Array Value) (P : Program) (w : World) :
    (results fn tmps).run P w = .ok (.tuple #[tmps.getD t undef, tmps.getD u undef, tmps.getD v undef, tmps.getD x undef, tmps.getD y undef]) w := by
  simp [results, h]

/-- What Base hands back. -/
def BaseR (m : Int) (n : Nat) (w : World) (e : Ending) (w' : World) : Prop :=
  ∃ db rb fb rf Fd Ff, e = .returned (.tuple #[.pointer (some ⟨db, 0, none⟩), .pointer (some ⟨rb, 0, none⟩), .pointer (some ⟨fb, 0, none⟩), .pointer (some ⟨rf, 0, none⟩), .bool true]) ∧
    Dv db db m true false 0 (List.replicate n page0) (List.replicate n page0) [] Fd w' ∧ Fe fb fb [] [] 0 (.map []) Ff w' ∧ (∀ k, Fd k → ¬ Ff k) ∧ w.heap.size ≤ db ∧ w.heap.size ≤ fb ∧ Below w.heap.size w w'

set_option maxHeartbeats 2000000 in
set_option maxRecDepth 100000 in
theorem base_nil (m : Int) (n : Nat) (w : World) (h1 : 1 ≤ m) (h2 : m ≤ 3000) (hn : (n : Int) ≤ m) : Calls Tryz.prog 12 #[.int .i64 m, .int .i64 n, .slice none 0 0] w (BaseR m n w) := by
  have HN := Lib.hid (dv_new m w h1 h2)
  have HRN := Lib.hid (fun w => ref_newdev m w h1 h2)
  have HFN := Lib.hid (fun w => fe_new none 0 0 [] w ⟨rfl, fun h => by omega⟩ (by omega))
  have HRS := Lib.hid (fun w => ref_sorted_nil w)
  have HH1 := Lib.hid h1
  have HH2 := Lib.hid h2
  have HHN := Lib.hid hn
  clear h1 h2 hn
  go_enter Tryz.func12, Tryz.ntmps12
  go_wp2_with fail
  refine HN.out.mono ?_
  rintro e w1 ⟨rfl, hD1, hb1⟩
  have HD1 := Lib.hid hD1
  have HB1 := Lib.hid hb1
  have HSZ : Hid (w.heap.size < w1.heap.size) := Lib.hid (hD1.lt w.heap.size rfl)
  clear hD1 hb1 HN
  go_wp2_with fail
  refine (HRN.out _).mono ?_
  rintro e w2 ⟨rfl, hw2⟩
  have hb2 : Below w1.heap.size w1 w2 := by rw [hw2]; exact (Below.refl _ w1).alloc (Nat.le_refl _) _
  have hrow : w2.heap[w1.heap.size]? = some (.cells #[.int .i64 m, .bool true, .slice none 0 0, .slice none 0 0, .int .i64 (-1)] 114 (0, 0)) := by rw [hw2]; exact heap_alloc_new w1 _
  have HRB : Hid (∀ k u, (#[Value.int .i64 m, .bool true, .slice none 0 0, .slice none 0 0, .int .i64 (-1)])[k]? = some u → w2.cell? ⟨w1.heap.size, k, none⟩ = some u) := Lib.hid (fun k u hu => by rw [cell_of_row _ _ _ _ _ _ hrow]; exact hu)
  have HRF : Hid (w2.frozen? ⟨w1.heap.size, 2, none⟩ = false) := Lib.hid (by unfold World.frozen?; rw [hrow]; simp)
  have HRL : Hid (w1.heap.size < w2.heap.size) := Lib.hid (by rw [hw2]; simp)
  have HD2 := Lib.hid (HD1.out.keep (Fr.of_all (S := fun _ => False) hb2) (fun _ _ h => h))
  have HB2 := Lib.hid (HB1.out.trans (hb2.mono HB1.out.size))
  have HGR := Lib.hid (dv_grow n HD2.out (by simp) HHN.out HH2.out)
  simp only [List.length_nil, Nat.sub_zero, List.nil_append] at HGR
  clear hb2 hw2 hrow HD1 HB1
  go_wp2_with fail
  refine HGR.out.mono ?_
  rintro e w3 ⟨rfl, F3, hD3, hS3⟩
  have hne : ¬ w1.heap.size = w.heap.size := by
    have := HSZ.out
    omega
  have hrg := ref_grow w1.heap.size m n w3 ((hS3.1.cell (p := ⟨w1.heap.size, 0, none⟩) HRL.out hne).trans (HRB.out 0 _ rfl)) ((hS3.1.cell (p := ⟨w1.heap.size, 1, none⟩) HRL.out hne).trans (HRB.out 1 _ rfl)) ((hS3.1.cell (p := ⟨w1.heap.size, 2, none⟩) HRL.out hne).trans (HRB.out 2 _ rfl)) ((hS3.1.cell (p := ⟨w1.heap.size, 4, none⟩) HRL.out hne).trans (HRB.out 4 _ rfl)) ((hS3.1.frozen (p := ⟨w1.heap.size, 2, none⟩) HRL.out hne).trans HRF.out) HHN.out HH2.out
  have HRG := Lib.hid hrg
  have HD3 := Lib.hid hD3
  have HB3 : Hid (Below w.heap.size w w3) := Lib.hid (HB2.out.trans (hS3.1.below HB2.out.size (fun k hk => by have : k = w.heap.size := hk; omega)))
  have HF3 : Hid (∀ k, F3 k → ¬ k = w1.heap.size) := Lib.hid (fun k hk e => by
    rcases hS3.2 k hk with h1 | h1
    · have h1 : k = w.heap.size := h1
      omega
    · have := HRL.out
      omega)
  have HS13 : Hid (w1.heap.size ≤ w3.heap.size) := Lib.hid (by have := HRL.out; have := hS3.1.size; omega)
  clear hrg hD3 hS3 HGR HD2 HB2 hne
  go_wp2_with fail
  refine HRG.out.mono ?_
  rintro e w4 ⟨rfl, hF4⟩
  have HD4 := Lib.hid (HD3.out.keep hF4 HF3.out)
  have HB4 : Hid (Below w.heap.size w w4) := Lib.hid (HB3.out.trans (hF4.below HB3.out.size (fun k hk => by have : k = w1.heap.size := hk; have := HSZ.out; omega)))
  clear hF4 HRG HD3 HB3 HF3 HRB HRF
  go_wp2_with fail
  refine (HFN.out _).mono ?_
  rintro e w5 ⟨rfl, l5, F5, hI5, hp5, hb5⟩
  obtain rfl : l5 = [] := hp5.eq_nil
  have HD5 := Lib.hid (HD4.out.keep (Fr.of_all (S := fun _ => False) hb5) (fun _ _ h => h))
  have HB5 := Lib.hid (HB4.out.trans (hb5.mono HB4.out.size))
  have HI5 := Lib.hid hI5
  have HAP : Hid (∀ k, F3 k → ¬ F5 k) := Lib.hid (fun k h1 h2 => by
    have e1 := HD4.out.lt k h1
    have e2 := hI5.ge k h2
    omega)
  have HFB : Hid (w.heap.size ≤ w4.heap.size) := Lib.hid HB4.out.size
  clear hI5 hp5 hb5 HD4 HB4
  go_wp2_with fail
  refine (HRS.out _).mono ?_
  rintro e w6 ⟨rfl, rfl⟩
  go_wp2
  refine bodyPost_ret (results_tmp5 rfl _ _ _) rfl ?_
  have hb7 : Below w6.heap.size w6 (w6.alloc (.cells #[.slice none 0 0, .slice none 0 0, .slice none 0 0] 99)) := (Below.refl _ w6).alloc (Nat.le_refl _) _
  exact ⟨w.heap.size, w1.heap.size, w4.heap.size, w6.heap.size, F3, F5, rfl, HD5.out.keep (Fr.of_all (S := fun _ => False) hb7) (fun _ _ h => h), HI5.out.below hb7, HAP.out, Nat.le_refl _, HFB.out, HB5.out.trans (hb7.mono HB5.out.size)⟩
end Go.Proofs.YtlocadmiomglaaaGreatDoor

/- pager's clear; New. -/
namespace Go.Proofs.YtlocadmiomglaaaGreatDoor
open Go.RowKit Go.Maps Go.Conc

/-- What clear leaves. -/
structure ClrR (pb : Nat) (w : World) (bm bd bw sb sbase : Nat) (F : Nat → Prop) (w' : World) : Prop where
  c5 : w'.cell? ⟨pb, 5, none⟩ = some (.map (some bm))
  c6 : w'.cell? ⟨pb, 6, none⟩ = some (.map (some bd))
  c7 : w'.cell? ⟨pb, 7, none⟩ = some (.map (some bw))
  c8 : w'.cell? ⟨pb, 8, none⟩ = some (.pointer (some ⟨sb, 0, none⟩))
  cx : ∀ k, k < 5 → w'.cell? ⟨pb, k, none⟩ = w.cell? ⟨pb, k, none⟩
  fz : ∀ k, w'.frozen? ⟨pb, k, none⟩ = w.frozen? ⟨pb, k, none⟩
  made : heldM bm 0 [] w'
  drp : unitM bd 0 [] w'
  was : unitM bw 0 [] w'
  spa : spare sb sbase [] F w'
  apart : bm = w.heap.size ∧ bd = w.heap.size + 1 ∧ bw = w.heap.size + 2 ∧ ∀ k, F k → w.heap.size + 3 ≤ k
  fr : Fr (fun k => k = pb) w w'

theorem set_co (pb i j : Nat) (u : Value) (w : World) (h : i ≠ j) : (w.setCell ⟨pb, i, none⟩ u).cell? ⟨pb, j, none⟩ = w.cell? ⟨pb, j, none⟩ :=
  World.cell?_setCell_other _ _ _ _ (by intro e; injection e with _ e _; omega)

theorem clr_fin {pb sb : Nat} {w w4 : World} {v : Value} {v5 v6 v7 v8 : Value} {l : List Int} (hlt : pb < w.heap.size) (c5 : w.cell? ⟨pb, 5, none⟩ = some v5) (c6 : w.cell? ⟨pb, 6, none⟩ = some v6) (c7 : w.cell? ⟨pb, 7, none⟩ = some v7) (c8 : w.cell? ⟨pb, 8, none⟩ = some v8)
    (hsb : (((w.alloc (.map #[] 0)).alloc (.map #[] 0)).alloc (.map #[] 0)).heap.size ≤ sb) (hP : PileI sb (((w.alloc (.map #[] 0)).alloc (.map #[] 0)).alloc (.map #[] 0)).heap.size v l w4) (hp : l.Perm []) (hb : Below (((w.alloc (.map #[] 0)).alloc (.map #[] 0)).alloc (.map #[] 0)).heap.size (((w.alloc (.map #[] 0)).alloc (.map #[] 0)).alloc (.map #[] 0)) w4) :
    ClrR pb w w.heap.size (w.heap.size + 1) (w.heap.size + 2) sb (w.heap.size + 3) (pileF sb v) ((((w4.setCell ⟨pb, 5, none⟩ (.map (some w.heap.size))).setCell ⟨pb, 6, none⟩ (.map (some (w.heap.size + 1)))).setCell ⟨pb, 7, none⟩ (.map (some (w.heap.size + 1 + 1)))).setCell ⟨pb, 8, none⟩ (.pointer (some ⟨sb, 0, none⟩))) := by
  have hz : (((w.alloc (.map #[] 0)).alloc (.map #[] 0)).alloc (.map #[] 0)).heap.size = w.heap.size + 3 := by simp
  rw [hz] at hsb hP hb
  obtain rfl : l = [] := hp.eq_nil
  have hz4 := hb.size
  have hF03 : Fr (fun _ => False) w (((w.alloc (.map #[] 0)).alloc (.map #[] 0)).alloc (.map #[] 0)) := (((Fr.refl (fun _ => False) w).alloc _).alloc _).alloc _
  have hF34 : Fr (fun k => k = pb) (((w.alloc (.map #[] 0)).alloc (.map #[] 0)).alloc (.map #[] 0)) w4 := Fr.of_all (by rw [hz]; exact hb)
  have hF04 : Fr (fun k => k = pb) w w4 := Fr.trans (hF03.mono (fun _ _ h => h.elim)) hF34 (fun i hi _ => hi)
  have hF45 : Fr (fun k => k = pb) w4 ((((w4.setCell ⟨pb, 5, none⟩ (.map (some w.heap.size))).setCell ⟨pb, 6, none⟩ (.map (some (w.heap.size + 1)))).setCell ⟨pb, 7, none⟩ (.map (some (w.heap.size + 1 + 1)))).setCell ⟨pb, 8, none⟩ (.pointer (some ⟨sb, 0, none⟩))) :=
    ((((Fr.refl (fun k => k = pb) w4).setCell (p := ⟨pb, 5, none⟩) (fun _ => rfl) _).setCell (p := ⟨pb, 6, none⟩) (fun _ => rfl) _).setCell (p := ⟨pb, 7, none⟩) (fun _ => rfl) _).setCell (p := ⟨pb, 8, none⟩) (fun _ => rfl) _
  have hF35 := hF34.trans hF45 (fun i hi _ => hi)
  have hc4 : ∀ k, w4.cell? ⟨pb, k, none⟩ = w.cell? ⟨pb, k, none⟩ := fun k => by
    rw [hb.cell (p := ⟨pb, k, none⟩) (by show pb < _; omega)]
    exact hF03.cell (p := ⟨pb, k, none⟩) hlt (fun h => h)
  have hm : ∀ {H : Type} (R : Value → Option (DataW H × List MemPlace)), (((w.alloc (.map #[] 0)).alloc (.map #[] 0)).alloc (.map #[] 0)).ownsMap Tryz.prog 3 R w.heap.size 0 (.map []) ∧ (((w.alloc (.map #[] 0)).alloc (.map #[] 0)).alloc (.map #[] 0)).ownsMap Tryz.prog 3 R (w.heap.size + 1) 0 (.map []) ∧ (((w.alloc (.map #[] 0)).alloc (.map #[] 0)).alloc (.map #[] 0)).ownsMap Tryz.prog 3 R (w.heap.size + 2) 0 (.map []) := fun R => by
    have e1 := World.ownsMap_made (w.alloc (.map #[] 0)) Tryz.prog 3 R
    have e2 := World.ownsMap_made ((w.alloc (.map #[] 0)).alloc (.map #[] 0)) Tryz.prog 3 R
    rw [show (w.alloc (.map #[] 0)).heap.size = w.heap.size + 1 by simp] at e1
    rw [show ((w.alloc (.map #[] 0)).alloc (.map #[] 0)).heap.size = w.heap.size + 2 by simp] at e2
    exact ⟨((World.ownsMap_made w Tryz.prog 3 R).alloc _).alloc _, e1.alloc _, e2⟩
  refine ⟨?_, ?_, ?_, ?_, fun k hk => ?_, fun k => ?_, ⟨_, own_map_fr (hm heldR).1 hF35 (by show ¬ w.heap.size = pb; omega), MapR.nil⟩, ⟨_, own_map_fr (hm unitElem).2.1 hF35 (by show ¬ w.heap.size + 1 = pb; omega), SetR.nil⟩, ⟨_, own_map_fr (hm unitElem).2.2 hF35 (by show ¬ w.heap.size + 2 = pb; omega), SetR.nil⟩, ⟨v, hP.keep hF45 (fun k hk e => ?_), rfl, hsb⟩, ⟨rfl, rfl, rfl, fun k hk => ?_⟩, hF04.trans hF45 (fun i hi _ => hi)⟩
  · rw [set_co _ _ _ _ _ (by omega), set_co _ _ _ _ _ (by omega), set_co _ _ _ _ _ (by omega)]
    exact cell_set_same _ _ _ _ ((hc4 5).trans c5)
  · rw [set_co _ _ _ _ _ (by omega), set_co _ _ _ _ _ (by omega)]
    exact cell_set_same _ _ _ _ ((set_co _ _ _ _ _ (by omega)).trans ((hc4 6).trans c6))
  · rw [set_co _ _ _ _ _ (by omega)]
    exact cell_set_same _ _ _ _ ((set_co _ _ _ _ _ (by omega)).trans ((set_co _ _ _ _ _ (by omega)).trans ((hc4 7).trans c7)))
  · exact cell_set_same _ _ _ _ ((set_co _ _ _ _ _ (by omega)).trans ((set_co _ _ _ _ _ (by omega)).trans ((set_co _ _ _ _ _ (by omega)).trans ((hc4 8).trans c8))))
  · rw [set_co _ _ _ _ _ (by omega), set_co _ _ _ _ _ (by omega), set_co _ _ _ _ _ (by omega), set_co _ _ _ _ _ (by omega), hc4 k]
  · rw [frozen_set, frozen_set, frozen_set, frozen_set, hb.frozen (p := ⟨pb, k, none⟩) (by show pb < _; omega)]
    exact hF03.frozen (p := ⟨pb, k, none⟩) hlt (fun h => h)
  · have e : k = pb := e
    rcases hk with h1 | h1
    · omega
    · have := (hP.1.2.2.1.lt k h1).1
      omega
  · rcases hk with h1 | h1
    · omega
    · exact (hP.1.2.2.1.lt k h1).1

set_option maxHeartbeats 1000000 in
set_option maxRecDepth 100000 in
theorem pg_clear (pb : Nat) (w : World) (v5 v6 v7 v8 : Value) (c5 : w.cell? ⟨pb, 5, none⟩ = some v5) (c6 : w.cell? ⟨pb, 6, none⟩ = some v6) (c7 : w.cell? ⟨pb, 7, none⟩ = some v7) (c8 : w.cell? ⟨pb, 8, none⟩ = some v8) (fz : ∀ k, k < 9 → w.frozen? ⟨pb, k, none⟩ = false) :
    Calls Tryz.prog 47 #[.pointer (some ⟨pb, 0, none⟩)] w fun e w' => e = .returned (.tuple #[]) ∧ ∃ bm bd bw sb sbase F, ClrR pb w bm bd bw sb sbase F w' := by
  have hlt := cell_lt c5
  have hmm := @run_makeMap Tryz.prog
  have HPN := Lib.hid (fun w => pile_new none 0 0 [] w ⟨rfl, fun h => by omega⟩ (by omega))
  go_enter Tryz.func47, Tryz.ntmps47
  go_wp2_with fail
  refine (HPN.out _).mono ?_
  rintro e w4 ⟨sb, v, l, rfl, hsb, hP, hp, hb⟩
  have hz : (((w.alloc (.map #[] 0)).alloc (.map #[] 0)).alloc (.map #[] 0)).heap.size = w.heap.size + 3 := by simp
  have hc4 : ∀ k, w4.cell? ⟨pb, k, none⟩ = w.cell? ⟨pb, k, none⟩ := fun k => by
    rw [hb.cell (p := ⟨pb, k, none⟩) (by show pb < _; omega)]
    exact ((((Fr.refl (fun _ => False) w).alloc _).alloc _).alloc _).cell (p := ⟨pb, k, none⟩) hlt (fun h => h)
  have hf4 : ∀ k, w4.frozen? ⟨pb, k, none⟩ = w.frozen? ⟨pb, k, none⟩ := fun k => by
    rw [hb.frozen (p := ⟨pb, k, none⟩) (by show pb < _; omega)]
    exact ((((Fr.refl (fun _ => False) w).alloc _).alloc _).alloc _).frozen (p := ⟨pb, k, none⟩) hlt (fun h => h)
  have HFIN := Lib.hid (clr_fin hlt c5 c6 c7 c8 hsb hP hp hb)
  have d5 := (hc4 5).trans c5
  have d6 := (hc4 6).trans c6
  have d7 := (hc4 7).trans c7
  have d8 := (hc4 8).trans c8
  have g5 := (hf4 5).trans (fz 5 (by omega))
  have g6 := (hf4 6).trans (fz 6 (by omega))
  have g7 := (hf4 7).trans (fz 7 (by omega))
  have g8 := (hf4 8).trans (fz 8 (by omega))
  clear c5 c6 c7 c8 fz hsb hP hp hb hz hc4 hf4 hmm
  go_wp2
  go_end0
  exact ⟨rfl, _, _, _, _, _, _, HFIN.out⟩
end Go.Proofs.YtlocadmiomglaaaGreatDoor

