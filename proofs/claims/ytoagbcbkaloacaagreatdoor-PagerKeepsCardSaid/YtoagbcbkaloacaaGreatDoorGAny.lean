/- pager: Read and Drop of whatever page. -/
import Derived.Test.YtoagbcbkaloacaaGreatDoorGAlive
namespace Go.Proofs.YtoagbcbkaloacaaGreatDoor
open Go.RowKit Go.Maps Go.Conc

/-- Open answers something, of whatever bytes. -/
theorem open_some (id : Int) (b : ByteArray) : ∃ k n s code, ∀ w : World, Calls Tryz.prog 61 #[.int .i64 id, .string b] w fun e w' => e = .returned (.tuple #[pgv k n s, .int .i64 code]) ∧ Below w.heap.size w w' := by
  by_cases h : b.size = 256
  · by_cases hc : unfixN b 252 4 = crcS (b.extract 0 252)
    · cases hf : formOK id b with
      | true => exact ⟨_, _, _, _, fun w => page_open_ok id b w h hc hf⟩
      | false => exact ⟨_, _, _, _, fun w => page_open_form id b w h hc hf⟩
    · exact ⟨_, _, _, _, fun w => page_open_sum id b w h hc⟩
  · exact ⟨_, _, _, _, fun w => page_open_short id b w h⟩

section
variable {pb base : Nat} {s : PgS} {U : Nat → Prop} {w w' : World}

set_option maxHeartbeats 2000000 in
set_option maxRecDepth 100000 in
theorem pg_read_out (id : Int) (h : Pg pb base s U w) (ho : id < 2 ∨ (s.pages : Int) ≤ id) :
    Calls Tryz.prog 26 #[.pointer (some ⟨pb, 0, none⟩), .int .i64 id] w fun e w' => e = .returned (.tuple #[pgv 0 0 ByteArray.empty, .int .i64 3]) ∧ Below w.heap.size w w' := by
  have hal : Below w.heap.size w (w.alloc (.cells #[.int .i64 0, .int .i64 0, .string ByteArray.empty] 23)) := (Below.refl _ w).alloc (Nat.le_refl _) _
  have hP := h.below hal
  have c3 := hP.cells.c3
  have HNO := Lib.hid (pg_none hP.cells)
  have HAL := Lib.hid hal
  have ho2 : id < 2 ∨ (¬ id < 2 ∧ (s.pages : Int) ≤ id) := by omega
  clear h hP hal ho
  rcases ho2 with g1 | ⟨g1, g2⟩
  all_goals
    go_enter Tryz.func26, Tryz.ntmps26
    go_wp2_with fail
    refine HNO.out.mono ?_
    rintro e w1 ⟨rfl, hw1⟩
    subst hw1
    go_wp2
    (try simp only [Exit.inBlock, Exit.then])
    refine bodyPost_ret (v := .tuple #[pgv 0 0 ByteArray.empty, .int .i64 3]) ?_ rfl ⟨rfl, HAL.out⟩
    rw [results_cell_tmp rfl]
    unfold pgv
    go_simp
    rfl

set_option maxHeartbeats 4000000 in
set_option maxRecDepth 100000 in
/-- A page that is neither made nor dropped: as the device has it. -/
theorem pg_read_dev (id : Nat) (h : Pg pb base s U w) (hid : (Lit.int .i64 (id : Int)).wf = true) (h2 : 2 ≤ id) (hp : id < s.pages) (hpn : s.pages ≤ s.nw.length) (hm : (id : Int) ∉ s.A.map (·.1)) (hd : (id : Int) ∉ s.D) (hw : (id : Int) ∉ s.W)
    (k n code : Int) (b : ByteArray) (hO : ∀ w : World, Calls Tryz.prog 61 #[.int .i64 (id : Int), .string (s.nw.getD id default)] w fun e w' => e = .returned (.tuple #[pgv k n b, .int .i64 code]) ∧ Below w.heap.size w w') :
    Calls Tryz.prog 26 #[.pointer (some ⟨pb, 0, none⟩), .int .i64 (id : Int)] w fun e w' => e = .returned (.tuple #[pgv k n b, .int .i64 code]) ∧ Below w.heap.size w w' := by
  have hal : Below w.heap.size w (w.alloc (.cells #[.int .i64 0, .int .i64 0, .string ByteArray.empty] 23)) := (Below.refl _ w).alloc (Nat.le_refl _) _
  have hal1 := hal.alloc (by simp) (.cells #[.int .i64 0, .int .i64 0, .string ByteArray.empty] 23)
  have hal2 := hal1.alloc (by simp; omega) (.cells #[] 81)
  have hal3 := hal2.alloc (by simp; omega) (.cells #[] 81)
  have hP := h.below hal
  have hP1 := h.below hal1
  have hP2 := h.below hal2
  have hP3 := h.below hal3
  have c5 := hP.cells.c5
  have c3 := hP.cells.c3
  have c6 := hP1.cells.c6
  have c7 := hP2.cells.c7
  have c0 := hP3.cells.c0
  have HNO := Lib.hid (pg_none hP.cells)
  have g1 : ¬ (id : Int) < 2 := by omega
  have g2 : ¬ ((s.pages : Int) ≤ (id : Int)) := by omega
  have hld := unit_look hP1.drp (id : Int) hid
  have hlw := unit_look hP2.was (id : Int) hid
  rw [decide_eq_false hd] at hld
  rw [decide_eq_false hw] at hlw
  obtain ⟨F, hD, _⟩ := hP3.dev
  have HRD := Lib.hid (dv_read id hD (by omega))
  have HO := Lib.hid hO
  have HZ3 := Lib.hid (show ((((w.alloc (.cells #[.int .i64 0, .int .i64 0, .string ByteArray.empty] 23)).alloc (.cells #[.int .i64 0, .int .i64 0, .string ByteArray.empty] 23)).alloc (.cells #[] 81)).alloc (.cells #[] 81)).heap.size = w.heap.size + 4 by simp)
  have HB3 := Lib.hid hal3
  have hx : ∀ j u, (#[Value.int .i64 0, .int .i64 0, .string ByteArray.empty])[j]? = some u → ((((w.alloc (.cells #[.int .i64 0, .int .i64 0, .string ByteArray.empty] 23)).alloc (.cells #[.int .i64 0, .int .i64 0, .string ByteArray.empty] 23)).alloc (.cells #[] 81)).alloc (.cells #[] 81)).cell? ⟨w.heap.size, j, none⟩ = some u := fun j u hu => by
    have hrow := heap_alloc_new w (.cells #[.int .i64 0, .int .i64 0, .string ByteArray.empty] 23)
    rw [((((Fr.refl (fun _ => False) _).alloc _).alloc _).alloc _).cell (p := ⟨w.heap.size, j, none⟩) (by show w.heap.size < _; simp) (fun h => h), cell_of_row _ _ _ _ _ _ hrow]
    exact hu
  have HX := Lib.hid hx
  have hf : ∀ j, ((((w.alloc (.cells #[.int .i64 0, .int .i64 0, .string ByteArray.empty] 23)).alloc (.cells #[.int .i64 0, .int .i64 0, .string ByteArray.empty] 23)).alloc (.cells #[] 81)).alloc (.cells #[] 81)).frozen? ⟨w.heap.size, j, none⟩ = false := fun j => by
    have hrow := heap_alloc_new w (.cells #[.int .i64 0, .int .i64 0, .string ByteArray.empty] 23)
    rw [((((Fr.refl (fun _ => False) _).alloc _).alloc _).alloc _).frozen (p := ⟨w.heap.size, j, none⟩) (by show w.heap.size < _; simp) (fun h => h)]
    unfold World.frozen?
    rw [hrow]
    simp
  have HFZ := Lib.hid hf
  rcases made_look hP (id : Int) hid with ⟨v, hv', hlk⟩ | ⟨_, hlk⟩
  · exact absurd (List.mem_map.2 ⟨_, hv', rfl⟩) hm
  · generalize hbb : s.nw.getD id default = bb at *
    clear h hP hP1 hP2 hP3 hal hal1 hal2 hal3 hm h2 hp hpn hd hw hD hO hx hf hbb
    go_enter Tryz.func26, Tryz.ntmps26
    go_wp2_with fail
    refine HNO.out.mono ?_
    rintro e w1 ⟨rfl, hw1⟩
    subst hw1
    go_wp2_with fail
    refine HRD.out.mono ?_
    rintro e w2 ⟨rfl, hw2⟩
    subst hw2
    go_wp2_with fail
    refine (HO.out _).mono ?_
    rintro e w3 ⟨rfl, hb3⟩
    rw [HZ3.out] at hb3
    have y0 : w3.cell? ⟨w.heap.size, 0, none⟩ = some (.int .i64 0) := (hb3.cell (p := ⟨w.heap.size, 0, none⟩) (by show w.heap.size < _; omega)).trans (HX.out 0 _ rfl)
    have y1 : w3.cell? ⟨w.heap.size, 1, none⟩ = some (.int .i64 0) := (hb3.cell (p := ⟨w.heap.size, 1, none⟩) (by show w.heap.size < _; omega)).trans (HX.out 1 _ rfl)
    have y2 : w3.cell? ⟨w.heap.size, 2, none⟩ = some (.string ByteArray.empty) := (hb3.cell (p := ⟨w.heap.size, 2, none⟩) (by show w.heap.size < _; omega)).trans (HX.out 2 _ rfl)
    have z0 := (hb3.frozen (p := ⟨w.heap.size, 0, none⟩) (by show w.heap.size < _; omega)).trans (HFZ.out 0)
    have z1 := (hb3.frozen (p := ⟨w.heap.size, 1, none⟩) (by show w.heap.size < _; omega)).trans (HFZ.out 1)
    have z2 := (hb3.frozen (p := ⟨w.heap.size, 2, none⟩) (by show w.heap.size < _; omega)).trans (HFZ.out 2)
    have HB4 := Lib.hid (HB3.out.trans (hb3.mono (by omega)))
    clear hb3
    unfold pgv
    go_wp2
    (try simp only [Exit.inBlock, Exit.then])
    refine bodyPost_ret (v := .tuple #[pgv k n b, .int .i64 code]) ?_ rfl ⟨rfl, ?_⟩
    · rw [results_cell_tmp rfl]
      unfold pgv
      go_simp
    · exact ((HB4.out.setCell (p := ⟨w.heap.size, 0, none⟩) (Nat.le_refl _) _).setCell (p := ⟨w.heap.size, 1, none⟩) (Nat.le_refl _) _).setCell (p := ⟨w.heap.size, 2, none⟩) (Nat.le_refl _) _

/-- Read answers something, of whatever page: what was made is read; what is read without fault, and was not made, was not dropped. -/
theorem pg_read_any (id : Int) (h : Pg pb base s U w) (hid : (Lit.int .i64 id).wf = true) (hpn : s.pages ≤ s.nw.length) (hA : AllPg s.A) :
    ∃ k n b code, Calls Tryz.prog 26 #[.pointer (some ⟨pb, 0, none⟩), .int .i64 id] w (fun e w' => e = .returned (.tuple #[pgv k n b, .int .i64 code]) ∧ Below w.heap.size w w') ∧
      (code = 0 → 2 ≤ id ∧ id < (s.pages : Int) ∧ (id ∉ s.A.map (·.1) → id ∉ s.D ∧ id ∉ s.W)) ∧ (2 ≤ id → id < (s.pages : Int) → id ∈ s.A.map (·.1) → code = 0) := by
  by_cases ho : id < 2 ∨ (s.pages : Int) ≤ id
  · exact ⟨_, _, _, _, pg_read_out id h ho, fun e => absurd e (by decide), fun h1 h2 _ => by omega⟩
  · by_cases hm : id ∈ s.A.map (·.1)
    · obtain ⟨D, ho', hR⟩ := h.made
      obtain ⟨q, hq, hq1⟩ := List.mem_map.1 hm
      obtain ⟨k, n, b, hv⟩ := hA q hq
      refine ⟨k, n, b, 0, pg_read_made id k n b h hid (by omega) (by omega) hm (fun v hv' => ?_), fun _ => ⟨by omega, by omega, fun h => absurd hm h⟩, fun _ _ _ => rfl⟩
      have e1 := hR.val id v (.held v) hv'
      have hq' : (id, q.2) ∈ s.A := by rw [← hq1]; exact hq
      have e2 := hR.val id q.2 (.held v) hq'
      rw [e1] at e2
      injection e2 with e2
      rw [e2, hv]
    · by_cases hg : id ∈ s.D ∨ id ∈ s.W
      · exact ⟨_, _, _, _, pg_read_gone id h hid (by omega) (by omega) hm hg, fun e => absurd e (by decide), fun _ _ h => absurd h hm⟩
      · obtain ⟨j, rfl⟩ : ∃ j : Nat, id = j := ⟨id.toNat, by omega⟩
        obtain ⟨k, n, b, code, hO⟩ := open_some (j : Int) (s.nw.getD j default)
        exact ⟨k, n, b, code, pg_read_dev j h hid (by omega) (by omega) hpn hm (fun h => hg (.inl h)) (fun h => hg (.inr h)) k n code b hO, fun _ => ⟨by omega, by omega, fun _ => ⟨fun h => hg (.inl h), fun h => hg (.inr h)⟩⟩, fun _ _ h => absurd h hm⟩

/-- What Drop does. -/
def DropR (s : PgS) (id : Int) (s' : PgS) : Prop :=
  s' = s ∨ (2 ≤ id ∧ id < (s.pages : Int) ∧ id ∈ s.A.map (·.1) ∧ DropO s id s') ∨
  (2 ≤ id ∧ id < (s.pages : Int) ∧ id ∉ s.A.map (·.1) ∧ s' = { s with D := id :: rid id s.D, nm := s.nm + 1 })

set_option maxHeartbeats 4000000 in
set_option maxRecDepth 100000 in
theorem pg_drop_any (id : Int) (h : Pg pb base s U w) (hid : (Lit.int .i64 id).wf = true) (hpn : s.pages ≤ s.nw.length) (hA : AllPg s.A) (hl : s.l.length < 900000) (hsl : s.sp.length < 900000) (hn : s.nm < 1000000) :
    Calls Tryz.prog 13 #[.pointer (some ⟨pb, 0, none⟩), .int .i64 id] w fun e w' => (∃ code, e = .returned (.int .i64 code)) ∧ ∃ s' U', DropR s id s' ∧ Pg pb base s' U' w' ∧ Step U U' w w' := by
  obtain ⟨k, n, b, code, hrd, hc, hmd⟩ := pg_read_any id h hid hpn hA
  by_cases hm : 2 ≤ id ∧ id < (s.pages : Int) ∧ id ∈ s.A.map (·.1)
  · refine (pg_drop_own id h hid hm.1 hm.2.1 hA hm.2.2 hl hsl hn).mono ?_
    rintro e w' ⟨he, s', U', hD, hP, hS⟩
    exact ⟨⟨_, he⟩, s', U', .inr (.inl ⟨hm.1, hm.2.1, hm.2.2, hD⟩), hP, hS⟩
  · have HRD := Lib.hid hrd
    have HP := Lib.hid h
    have HA := Lib.hid hA
    unfold pgv at HRD
    by_cases hc0 : code = 0
    · obtain ⟨g1, g2, _⟩ := hc hc0
      have hno : id ∉ s.A.map (·.1) := fun hi => hm ⟨g1, g2, hi⟩
      have HNO : Hid (decide (id ∈ s.A.map (·.1)) = false) := Lib.hid (decide_eq_false hno)
      have HDR : Hid (∀ s', s' = { s with D := id :: rid id s.D, nm := s.nm + 1 } → DropR s id s') := Lib.hid (fun s' hs => .inr (.inr ⟨g1, g2, hno, hs⟩))
      subst hc0
      clear hrd h hA hc hmd hm g1 g2 hno
      go_enter Tryz.func13, Tryz.ntmps13
      go_wp2_with fail
      refine HRD.out.mono ?_
      rintro e w1 ⟨rfl, hb1⟩
      have hal : Below w1.heap.size w1 (w1.alloc (.cells #[.int .i64 k, .int .i64 n, .string b] 23)) := (Below.refl _ w1).alloc (Nat.le_refl _) _
      have hb2 : Below w.heap.size w (w1.alloc (.cells #[.int .i64 k, .int .i64 n, .string b] 23)) := hb1.trans (hal.mono hb1.size)
      have hP2 := HP.out.below hb2
      have HP2 := Lib.hid hP2
      have HS2 : Hid (Step U U w (w1.alloc (.cells #[.int .i64 k, .int .i64 n, .string b] 23))) := Lib.hid (Step.still hb2)
      have HOW := Lib.hid (pg_own id hP2 HA.out hid)
      rw [HNO.out] at HOW
      clear hb1 hal hb2 hP2
      go_wp2_with fail
      refine HOW.out.mono ?_
      rintro e w3 ⟨rfl, hb3⟩
      have hP3 := HP2.out.below hb3
      have hS3 := HS2.out.trans (Step.still hb3)
      have c6 := hP3.cells.c6
      obtain ⟨w5, hup, U5, hP5, hS5⟩ := drp_store hP3 id hid hn
      have HE : Hid (∃ s' U', DropR s id s' ∧ Pg pb base s' U' w5 ∧ Step U U' w w5) := Lib.hid ⟨_, U5, HDR.out _ rfl, hP5, hS3.trans hS5⟩
      clear hP3 hS3 hP5 hS5 hb3 hl hsl hn
      go_wp2
      go_ret
      exact ⟨⟨_, rfl⟩, HE.out⟩
    · have hcb : (code != 0) = true := by rw [bne_iff_ne]; exact hc0
      clear hrd h hA hc hmd hm hc0
      go_enter Tryz.func13, Tryz.ntmps13
      go_wp2_with fail
      refine HRD.out.mono ?_
      rintro e w1 ⟨rfl, hb1⟩
      have hal : Below w1.heap.size w1 (w1.alloc (.cells #[.int .i64 k, .int .i64 n, .string b] 23)) := (Below.refl _ w1).alloc (Nat.le_refl _) _
      have hb2 : Below w.heap.size w (w1.alloc (.cells #[.int .i64 k, .int .i64 n, .string b] 23)) := hb1.trans (hal.mono hb1.size)
      have HE : Hid (∃ s' U', DropR s id s' ∧ Pg pb base s' U' (w1.alloc (.cells #[.int .i64 k, .int .i64 n, .string b] 23)) ∧ Step U U' w (w1.alloc (.cells #[.int .i64 k, .int .i64 n, .string b] 23))) := Lib.hid ⟨s, U, .inl rfl, HP.out.below hb2, Step.still hb2⟩
      clear hb1 hal hb2
      go_wp2
      go_ret
      exact ⟨⟨_, rfl⟩, HE.out⟩
end
end Go.Proofs.YtoagbcbkaloacaaGreatDoor
