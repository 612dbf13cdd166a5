/- pager: Make. -/
import Derived.Test.YtlocadmiomglaaaGreatDoorGMake
namespace Go.Proofs.YtlocadmiomglaaaGreatDoor
open Go.RowKit Go.Maps Go.Conc

/-- A page as it is handed in. -/
def pgv (kind next : Int) (body : ByteArray) : Value := .agg #[.int .i64 kind, .int .i64 next, .string body]
instance (id next kind : Int) : Decidable (sealOK id next kind) := by unfold sealOK; infer_instance
/-- What Seal answers. -/
def sealCode (id next kind : Int) (body : ByteArray) : Int := if ¬ sealOK id next kind then 1 else if 240 < body.size then 2 else 0

theorem seal_any (id next kind : Int) (body : ByteArray) (hb : body.size ≤ 1000000) (w : World) : Calls Tryz.prog 55 #[.int .i64 id, pgv kind next body] w fun e w' => (∃ str, e = .returned (.tuple #[.string str, .int .i64 (sealCode id next kind body)])) ∧ Below w.heap.size w w' := by
  unfold sealCode
  by_cases h : sealOK id next kind
  · by_cases h2 : 240 < body.size
    · refine (page_seal_long id next kind body w h h2 hb).mono ?_
      rintro e w' ⟨he, hb'⟩
      rw [if_neg (by simpa using h), if_pos h2]
      exact ⟨⟨_, he⟩, hb'⟩
    · obtain ⟨h3, h4, h5, h6, h7, h8⟩ := h
      obtain ⟨a, rfl⟩ : ∃ a : Nat, id = a := ⟨id.toNat, by omega⟩
      obtain ⟨b, rfl⟩ : ∃ b : Nat, next = b := ⟨next.toNat, by omega⟩
      obtain ⟨c, rfl⟩ : ∃ c : Nat, kind = c := ⟨kind.toNat, by omega⟩
      refine (page_seal a b c body w (by omega) (by omega) (by omega) (by omega) (by omega)).mono ?_
      rintro e w' ⟨he, hb'⟩
      rw [if_neg (by simp only [Classical.not_not]; exact ⟨h3, h4, h5, h6, h7, h8⟩), if_neg h2]
      exact ⟨⟨_, he⟩, hb'⟩
  · refine (page_seal_bad id next kind body w h).mono ?_
    rintro e w' ⟨he, hb'⟩
    rw [if_pos h]
    exact ⟨⟨_, he⟩, hb'⟩

section
variable {pb base : Nat} {s : PgS} {U : Nat → Prop} {w w' : World}

/-- What Make does. -/
def MakeR (s : PgS) (kind next : Int) (body : ByteArray) (e : Ending) (s' : PgS) : Prop :=
  (sealCode (nextOf s) next kind body ≠ 0 ∧ e = .returned (.tuple #[.int .i64 0, .int .i64 (sealCode (nextOf s) next kind body)]) ∧ s' = s) ∨
  (sealCode (nextOf s) next kind body = 0 ∧ s.sp = [] ∧ s.l = [] ∧ s.most < ((s.pages + 1 : Nat) : Int) ∧ e = .returned (.tuple #[.int .i64 0, .int .i64 10]) ∧ s' = s) ∨
  (sealCode (nextOf s) next kind body = 0 ∧ ∃ s1, TakeR s (.returned (.tuple #[.int .i64 (nextOf s), .int .i64 0])) s1 ∧ e = .returned (.tuple #[.int .i64 (nextOf s), .int .i64 0]) ∧
    s' = { s1 with W := rid (nextOf s) s1.W, A := (nextOf s, pgv kind next body) :: ridA (nextOf s) s1.A, nm := s1.nm + 1 })

theorem TakeR.same {e : Ending} {s' : PgS} (h : TakeR s e s') : s'.bm = s.bm ∧ s'.bw = s.bw ∧ s'.nm = s.nm ∧ s'.A = s.A ∧ s'.W = s.W ∧ s'.D = s.D ∧ s'.base = s.base ∧ s'.bd = s.bd := by
  rcases h with ⟨sp', _, _, rfl, _⟩ | ⟨l', _, _, _, rfl, _⟩ | ⟨_, _, _, _, rfl⟩ | ⟨_, _, _, _, rfl⟩
  · exact ⟨rfl, rfl, rfl, rfl, rfl, rfl, rfl, rfl⟩
  · exact ⟨rfl, rfl, rfl, rfl, rfl, rfl, rfl, rfl⟩
  · exact ⟨rfl, rfl, rfl, rfl, rfl, rfl, rfl, rfl⟩
  · exact ⟨rfl, rfl, rfl, rfl, rfl, rfl, rfl, rfl⟩

theorem TakeR.ends {e : Ending} {s' : PgS} (h : TakeR s e s') : e = .returned (.tuple #[.int .i64 (nextOf s), .int .i64 0]) ∨ (e = .returned (.tuple #[.int .i64 0, .int .i64 10]) ∧ s.sp = [] ∧ s.l = [] ∧ s.most < ((s.pages + 1 : Nat) : Int) ∧ s' = s) := by
  rcases h with ⟨sp', _, he, _, _⟩ | ⟨l', _, _, he, _, _⟩ | ⟨_, _, _, he, _⟩ | ⟨h1, h2, h3, he, h5⟩
  · exact .inl he
  · exact .inl he
  · exact .inl he
  · exact .inr ⟨he, h1, h2, h3, h5⟩

set_option maxHeartbeats 4000000 in
set_option maxRecDepth 100000 in
theorem pg_make (kind next : Int) (body : ByteArray) (h : Pg pb base s U w) (hnm : (s.nw.length : Int) ≤ s.most) (hm : s.most ≤ 3000) (hpg : s.pages ≤ s.nw.length) (hid : (Lit.int .i64 (nextOf s)).wf = true) (hbs : body.size ≤ 1000000) (hn : s.nm < 1000000) :
    Calls Tryz.prog 24 #[.pointer (some ⟨pb, 0, none⟩), .agg #[.int .i64 kind, .int .i64 next, .string body]] w fun e w' => ∃ s' U', MakeR s kind next body e s' ∧ Pg pb base s' U' w' ∧ Step U U' w w' := by
  have hA0 : Below w.heap.size w (w.alloc (.cells #[.int .i64 kind, .int .i64 next, .string body] 67)) := (Below.refl _ w).alloc (Nat.le_refl _) _
  have hP0 := h.below hA0
  have HP0 := Lib.hid hP0
  have HS0 : Hid (Step U U w (w.alloc (.cells #[.int .i64 kind, .int .i64 next, .string body] 67))) := Lib.hid (Step.still hA0)
  have HNO := Lib.hid (pg_none hP0.cells)
  have HNX : Hid (∀ W, Fr (fun _ => False) (w.alloc (.cells #[.int .i64 kind, .int .i64 next, .string body] 67)) W → Calls Tryz.prog 56 #[.pointer (some ⟨pb, 0, none⟩)] W fun e w' => e = .returned (.int .i64 (nextOf s)) ∧ Below W.heap.size W w') := Lib.hid (fun W hW => pg_next (hP0.keep hW (fun _ _ h => h)))
  have HSE := Lib.hid (fun W => seal_any (nextOf s) next kind body hbs W)
  have hrow := heap_alloc_new w (.cells #[.int .i64 kind, .int .i64 next, .string body] 67)
  have hx : ∀ k u, (#[Value.int .i64 kind, .int .i64 next, .string body])[k]? = some u → (w.alloc (.cells #[.int .i64 kind, .int .i64 next, .string body] 67)).cell? ⟨w.heap.size, k, none⟩ = some u := fun k u hu => by
    rw [cell_of_row _ _ _ _ _ _ hrow]; exact hu
  have x0 : (w.alloc (.cells #[.int .i64 kind, .int .i64 next, .string body] 67)).cell? ⟨w.heap.size, 0, none⟩ = some (.int .i64 kind) := hx 0 _ rfl
  have x1 : (w.alloc (.cells #[.int .i64 kind, .int .i64 next, .string body] 67)).cell? ⟨w.heap.size, 1, none⟩ = some (.int .i64 next) := hx 1 _ rfl
  have x2 : (w.alloc (.cells #[.int .i64 kind, .int .i64 next, .string body] 67)).cell? ⟨w.heap.size, 2, none⟩ = some (.string body) := hx 2 _ rfl
  have hz0 : (w.alloc (.cells #[.int .i64 kind, .int .i64 next, .string body] 67)).heap.size = w.heap.size + 1 := by simp
  have HZ0 := Lib.hid hz0
  have HTK := Lib.hid (fun W (h : Pg pb base s U W) => pg_take h hnm hm hpg)
  -- what a world behind 'next' and Seal still has
  have HL3 : Hid (∀ W, Below (w.heap.size + 1) (w.alloc (.cells #[.int .i64 kind, .int .i64 next, .string body] 67)) W → Pg pb base s U W ∧ Step U U w W ∧ W.cell? ⟨w.heap.size, 0, none⟩ = some (.int .i64 kind) ∧ W.cell? ⟨w.heap.size, 1, none⟩ = some (.int .i64 next) ∧ W.cell? ⟨w.heap.size, 2, none⟩ = some (.string body)) := Lib.hid (fun W hW => by
    have hW' := hW
    rw [← hz0] at hW'
    exact ⟨hP0.below hW', (Step.still hA0).trans (Step.still hW'), (hW.cell (p := ⟨w.heap.size, 0, none⟩) (by show w.heap.size < _; omega)).trans x0, (hW.cell (p := ⟨w.heap.size, 1, none⟩) (by show w.heap.size < _; omega)).trans x1, (hW.cell (p := ⟨w.heap.size, 2, none⟩) (by show w.heap.size < _; omega)).trans x2⟩)
  have HUW : Hid (¬ U w.heap.size) := Lib.hid (fun hU => by have := h.lt _ hU; omega)
  have HB0 : Hid (Below (w.heap.size + 1) (w.alloc (.cells #[.int .i64 kind, .int .i64 next, .string body] 67)) (w.alloc (.cells #[.int .i64 kind, .int .i64 next, .string body] 67)).drew) := Lib.hid (((Fr.refl (fun _ => False) _).drew).below (by simp) (fun _ h => h.elim))
  clear h hA0 hP0 hrow hx hz0 hnm hm hpg HP0 HS0
  by_cases hc : sealCode (nextOf s) next kind body = 0
  · have HC := Lib.hid hc
    have HSE0 : Hid (∀ W, Calls Tryz.prog 55 #[.int .i64 (nextOf s), pgv kind next body] W fun e w' => (∃ str, e = .returned (.tuple #[.string str, .int .i64 0])) ∧ Below W.heap.size W w') := Lib.hid (fun W => by
      have e := HSE.out W
      rwa [hc] at e)
    clear hc HSE
    go_enter Tryz.func24, Tryz.ntmps24
    go_wp2_with fail
    refine HNO.out.mono ?_
    rintro e w1 ⟨rfl, hw1⟩
    subst hw1
    go_wp2_with fail
    go_region_with (first
      | (go_at_call 56; refine (HNX.out _ ((Fr.refl _ _).drew)).mono ?_; rintro e w2 ⟨rfl, hb2⟩; have HB2 := Lib.hid (HB0.out.trans (by rw [show (w.alloc (.cells #[.int .i64 kind, .int .i64 next, .string body] 67)).drew.heap.size = w.heap.size + 1 from HZ0.out] at hb2; exact hb2)); obtain ⟨_, _, y0, y1, y2⟩ := HL3.out _ HB2.out; clear hb2)
      | (go_at_call 55; refine (HSE0.out _).mono ?_; rintro e w3 ⟨⟨str, rfl⟩, hb3⟩; have HB3 := Lib.hid (HB2.out.trans (hb3.mono (by have := HB2.out.size; have := HZ0.out; omega))); clear hb3))
    all_goals
      obtain ⟨hP3, hS3, y0, y1, y2⟩ := HL3.out _ HB3.out
      have HTK3 := Lib.hid (HTK.out _ hP3)
      have HS3 := Lib.hid hS3
      clear hP3 hS3
      go_wp2_with fail
      refine HTK3.out.mono ?_
      rintro e w4 ⟨s1, U4, hT, hP4, hS4⟩
      have HT := Lib.hid hT
      rcases hT.ends with rfl | ⟨rfl, k1, k2, k3, k4⟩
      · have z0 := (hS4.1.cell (p := ⟨w.heap.size, 0, none⟩) (cell_lt y0) HUW.out).trans y0
        have z1 := (hS4.1.cell (p := ⟨w.heap.size, 1, none⟩) (cell_lt y1) HUW.out).trans y1
        have z2 := (hS4.1.cell (p := ⟨w.heap.size, 2, none⟩) (cell_lt y2) HUW.out).trans y2
        obtain ⟨w5, hdl, U5, hP5, hS5⟩ := was_delete hP4 (nextOf s) hid 0
        have hU4 : ¬ U4 w.heap.size := fun hU => by
          rcases hS4.2 _ hU with h1 | h1
          · exact HUW.out h1
          · have := cell_lt y0
            have h2 : w.heap.size < w3.heap.size := this
            omega
        have t0 := (hS5.1.cell (p := ⟨w.heap.size, 0, none⟩) (cell_lt z0) hU4).trans z0
        have t1 := (hS5.1.cell (p := ⟨w.heap.size, 1, none⟩) (cell_lt z1) hU4).trans z1
        have t2 := (hS5.1.cell (p := ⟨w.heap.size, 2, none⟩) (cell_lt z2) hU4).trans z2
        have hdr : Fr (fun _ => False) w5 w5.drew := (Fr.refl _ _).drew
        have hP5d := hP5.keep hdr (fun _ _ h => h)
        have hS5d : Step U4 U5 w4 w5.drew := hS5.trans ⟨hdr.mono (fun _ _ h => h.elim), fun k h => .inl h⟩
        obtain ⟨w6, hup, U6, hP6, hS6⟩ := made_store hP5d (nextOf s) hid (by show s1.nm < 1000000; rw [hT.same.2.2.1]; exact hn) (pgv kind next body)
        have c7 := hP4.cells.c7
        have c5 : w5.cell? ⟨pb, 5, none⟩ = some (.map (some s1.bm)) := hP5.cells.c5
        have hup' : (Instr.mapUpdate 102 (.map (some s1.bm)) (.int .i64 (nextOf s)) (.agg #[.int .i64 kind, .int .i64 next, .string body])).run Tryz.prog w5.drew = .ok () w6 := hup
        have HE : Hid (∃ s' U', MakeR s kind next body (.returned (.tuple #[.int .i64 (nextOf s), .int .i64 0])) s' ∧ Pg pb base s' U' w6 ∧ Step U U' w w6) := Lib.hid ⟨_, U6, .inr (.inr ⟨HC.out, s1, HT.out, rfl, rfl⟩), hP6, ((HS3.out.trans hS4).trans hS5d).trans hS6⟩
        clear hup hP4 hS4 hP5 hS5 hP6 hS6 hT hU4 hdr hP5d hS5d
        generalize nextOf s = id at *
        go_wp2
        go_big_region
        all_goals
          go_wp2
          go_ret2
          exact HE.out
      · have HE : Hid (∃ s' U', MakeR s kind next body (.returned (.tuple #[.int .i64 0, .int .i64 10])) s' ∧ Pg pb base s' U' w4 ∧ Step U U' w w4) := Lib.hid ⟨s1, U4, .inr (.inl ⟨HC.out, k1, k2, k3, rfl, k4⟩), hP4, HS3.out.trans hS4⟩
        clear hT hP4 hS4
        go_wp2
        go_ret2
        exact HE.out
  · have hcb : (sealCode (nextOf s) next kind body != 0) = true := by rw [bne_iff_ne]; exact hc
    have HE : Hid (MakeR s kind next body (.returned (.tuple #[.int .i64 0, .int .i64 (sealCode (nextOf s) next kind body)])) s) := Lib.hid (.inl ⟨hc, rfl, rfl⟩)
    clear hc
    generalize sealCode (nextOf s) next kind body = code at *
    go_enter Tryz.func24, Tryz.ntmps24
    go_wp2_with fail
    refine HNO.out.mono ?_
    rintro e w1 ⟨rfl, hw1⟩
    subst hw1
    go_wp2_with fail
    go_region_with (first
      | (go_at_call 56; refine (HNX.out _ ((Fr.refl _ _).drew)).mono ?_; rintro e w2 ⟨rfl, hb2⟩; have HB2 := Lib.hid (HB0.out.trans (by rw [show (w.alloc (.cells #[.int .i64 kind, .int .i64 next, .string body] 67)).drew.heap.size = w.heap.size + 1 from HZ0.out] at hb2; exact hb2)); obtain ⟨_, _, y0, y1, y2⟩ := HL3.out _ HB2.out; clear hb2)
      | (go_at_call 55; refine (HSE.out _).mono ?_; rintro e w3 ⟨⟨str, rfl⟩, hb3⟩; have HB3 := Lib.hid (HB2.out.trans (hb3.mono (by have := HB2.out.size; have := HZ0.out; omega))); clear hb3))
    all_goals
      obtain ⟨hP3, hS3, _⟩ := HL3.out _ HB3.out
      have HPS := Lib.hid (And.intro hP3 hS3)
      clear hP3 hS3
      go_wp2
      go_ret2
      exact ⟨s, U, HE.out, HPS.out.1, HPS.out.2⟩
end
end Go.Proofs.YtlocadmiomglaaaGreatDoor
