/- pager: the maps' turns; Make. -/
import Derived.Test.YtlocadmiomglaaaGreatDoorGTake
namespace Go.Proofs.YtlocadmiomglaaaGreatDoor
open Go.RowKit Go.Maps Go.Conc

theorem int_wf {x : Int} (h1 : -9223372036854775808 ≤ x) (h2 : x ≤ 9223372036854775807) : (Lit.int .i64 x).wf = true := by
  have e := wrap64_wf x
  rwa [show wrap64 x = x by unfold wrap64; omega] at e

section
variable {pb base : Nat} {s : PgS} {U : Nat → Prop} {w w' : World} {Fs : Nat → Nat → Prop}
theorem PgI.held {A' : List (Int × Value)} {n : Nat} (h : PgI pb base s Fs w) (hn : s.nm ≤ n) (hD : heldM s.bm n A' w') (hS : Fr (fun k => k = s.bm) w w') : ∃ U', Pg pb base { s with A := A', nm := n } U' w' ∧ Step (fun k => ∃ j, Fs j k) U' w w' := by
  have hF := (h.part 3).2
  refine PgI.turn 3 (F' := fun k => k = s.bm) h (fun j hj F W h => ?_) ⟨hD, rfl⟩ ⟨by rw [hF]; exact hS, fun k hk => .inl (by rw [hF]; exact hk)⟩
  rcases j with _ | _ | _ | _ | _ | _ | _ | j <;> first | exact absurd rfl hj | exact h | exact ⟨unitM.mono h.1 hn, h.2⟩
theorem PgI.drop {L : List Int} {n : Nat} (h : PgI pb base s Fs w) (hn : s.nm ≤ n) (hD : unitM s.bd n L w') (hS : Fr (fun k => k = s.bd) w w') : ∃ U', Pg pb base { s with D := L, nm := n } U' w' ∧ Step (fun k => ∃ j, Fs j k) U' w w' := by
  have hF := (h.part 4).2
  refine PgI.turn 4 (F' := fun k => k = s.bd) h (fun j hj F W h => ?_) ⟨hD, rfl⟩ ⟨by rw [hF]; exact hS, fun k hk => .inl (by rw [hF]; exact hk)⟩
  rcases j with _ | _ | _ | _ | _ | _ | _ | j <;> first | exact absurd rfl hj | exact h | exact ⟨heldM.mono h.1 hn, h.2⟩ | exact ⟨unitM.mono h.1 hn, h.2⟩
theorem PgI.been {L : List Int} {n : Nat} (h : PgI pb base s Fs w) (hn : s.nm ≤ n) (hD : unitM s.bw n L w') (hS : Fr (fun k => k = s.bw) w w') : ∃ U', Pg pb base { s with W := L, nm := n } U' w' ∧ Step (fun k => ∃ j, Fs j k) U' w w' := by
  have hF := (h.part 5).2
  refine PgI.turn 5 (F' := fun k => k = s.bw) h (fun j hj F W h => ?_) ⟨hD, rfl⟩ ⟨by rw [hF]; exact hS, fun k hk => .inl (by rw [hF]; exact hk)⟩
  rcases j with _ | _ | _ | _ | _ | _ | _ | j <;> first | exact absurd rfl hj | exact h | exact ⟨heldM.mono h.1 hn, h.2⟩ | exact ⟨unitM.mono h.1 hn, h.2⟩

/-- delete(p.was, id). -/
theorem was_delete (h : Pg pb base s U w) (id : Int) (hid : (Lit.int .i64 id).wf = true) (ty : TypeId) : ∃ w', (Builtin.delete_ #[103, 3] ty #[.map (some s.bw), .int .i64 id]).run Tryz.prog w = .ok (.tuple #[]) w' ∧ ∃ U', Pg pb base { s with W := rid id s.W } U' w' ∧ Step U U' w w' := by
  obtain ⟨Fs, hI, rfl⟩ := h
  obtain ⟨⟨D, ho, hR⟩, _⟩ := hI.part 5
  obtain ⟨w1, hdl, ho1, ht1⟩ := ho.drop keyedI Tryz.underlying103 (key_of hid) ty
  obtain ⟨U', h1, h2⟩ := hI.been (L := rid id s.W) (Nat.le_refl _) ⟨_, ho1, hR.del id⟩ (fr_turn ht1)
  exact ⟨w1, hdl, U', h1, h2⟩
/-- p.made[id] = v. -/
theorem made_store (h : Pg pb base s U w) (id : Int) (hid : (Lit.int .i64 id).wf = true) (hn : s.nm < 1000000) (v : Value) : ∃ w', (Instr.mapUpdate 102 (.map (some s.bm)) (.int .i64 id) v).run Tryz.prog w = .ok () w' ∧ ∃ U', Pg pb base { s with A := (id, v) :: ridA id s.A, nm := s.nm + 1 } U' w' ∧ Step U U' w w' := by
  obtain ⟨Fs, hI, rfl⟩ := h
  obtain ⟨⟨D, ho, hR⟩, _⟩ := hI.part 3
  obtain ⟨w1, hup, ho1, ht1⟩ := ho.store keyedI Tryz.underlying102 (by unfold maxLen; omega) (key_of hid) (show heldR v = some (.held v, []) from rfl)
  obtain ⟨U', h1, h2⟩ := hI.held (A' := (id, v) :: ridA id s.A) (Nat.le_succ _) ⟨_, ho1, hR.put id v⟩ (fr_turn ht1)
  exact ⟨w1, hup, U', h1, h2⟩
/-- delete(p.made, id). -/
theorem made_delete (h : Pg pb base s U w) (id : Int) (hid : (Lit.int .i64 id).wf = true) (ty : TypeId) : ∃ w', (Builtin.delete_ #[102, 3] ty #[.map (some s.bm), .int .i64 id]).run Tryz.prog w = .ok (.tuple #[]) w' ∧ ∃ U', Pg pb base { s with A := ridA id s.A } U' w' ∧ Step U U' w w' := by
  obtain ⟨Fs, hI, rfl⟩ := h
  obtain ⟨⟨D, ho, hR⟩, _⟩ := hI.part 3
  obtain ⟨w1, hdl, ho1, ht1⟩ := ho.drop keyedI Tryz.underlying102 (key_of hid) ty
  obtain ⟨U', h1, h2⟩ := hI.held (A' := ridA id s.A) (Nat.le_refl _) ⟨_, ho1, hR.del id⟩ (fr_turn ht1)
  exact ⟨w1, hdl, U', h1, h2⟩
/-- p.was[id] = struct{}{}. -/
theorem was_store (h : Pg pb base s U w) (id : Int) (hid : (Lit.int .i64 id).wf = true) (hn : s.nm < 1000000) : ∃ w', (Instr.mapUpdate 103 (.map (some s.bw)) (.int .i64 id) (.agg #[])).run Tryz.prog w = .ok () w' ∧ ∃ U', Pg pb base { s with W := id :: rid id s.W, nm := s.nm + 1 } U' w' ∧ Step U U' w w' := by
  obtain ⟨Fs, hI, rfl⟩ := h
  obtain ⟨⟨D, ho, hR⟩, _⟩ := hI.part 5
  obtain ⟨w1, hup, ho1, ht1⟩ := ho.store keyedI Tryz.underlying103 (by unfold maxLen; omega) (key_of hid) unitElem_mk
  obtain ⟨U', h1, h2⟩ := hI.been (L := id :: rid id s.W) (Nat.le_succ _) ⟨_, ho1, hR.put id _⟩ (fr_turn ht1)
  exact ⟨w1, hup, U', h1, h2⟩
/-- p.dropped[id] = struct{}{}. -/
theorem drp_store (h : Pg pb base s U w) (id : Int) (hid : (Lit.int .i64 id).wf = true) (hn : s.nm < 1000000) : ∃ w', (Instr.mapUpdate 103 (.map (some s.bd)) (.int .i64 id) (.agg #[])).run Tryz.prog w = .ok () w' ∧ ∃ U', Pg pb base { s with D := id :: rid id s.D, nm := s.nm + 1 } U' w' ∧ Step U U' w w' := by
  obtain ⟨Fs, hI, rfl⟩ := h
  obtain ⟨⟨D, ho, hR⟩, _⟩ := hI.part 4
  obtain ⟨w1, hup, ho1, ht1⟩ := ho.store keyedI Tryz.underlying103 (by unfold maxLen; omega) (key_of hid) unitElem_mk
  obtain ⟨U', h1, h2⟩ := hI.drop (L := id :: rid id s.D) (Nat.le_succ _) ⟨_, ho1, hR.put id _⟩ (fr_turn ht1)
  exact ⟨w1, hup, U', h1, h2⟩
set_option maxRecDepth 100000 in
/-- x, own := p.made[id]. -/
theorem made_look (h : Pg pb base s U w) (id : Int) (hid : (Lit.int .i64 id).wf = true) :
    (∃ v, (id, v) ∈ s.A ∧ (Instr.lookup 102 (.map (some s.bm)) (.int .i64 id) true).run Tryz.prog w = .ok (.tuple #[v, .bool true]) w) ∨
    (id ∉ s.A.map (·.1) ∧ (Instr.lookup 102 (.map (some s.bm)) (.int .i64 id) true).run Tryz.prog w = .ok (.tuple #[.agg #[.int .i64 0, .int .i64 0, .string ByteArray.empty], .bool false]) w) := by
  obtain ⟨D, ho, hR⟩ := h.made
  obtain ⟨v, ps, hrun, hv⟩ := ho.look_ok keyedI Tryz.underlying102 (show (zeroValue 67).run Tryz.prog w = .ok (.agg #[.int .i64 0, .int .i64 0, .string ByteArray.empty]) w from rfl) (show heldR (.agg #[.int .i64 0, .int .i64 0, .string ByteArray.empty]) = some (.held (.agg #[.int .i64 0, .int .i64 0, .string ByteArray.empty]), []) from rfl) (key_of hid)
  have hv2 : DataW.held v = D.atKey (.int .i64 id) (.held (.agg #[.int .i64 0, .int .i64 0, .string ByteArray.empty])) := by
    unfold heldR at hv
    injection hv with hv
    injection hv
  by_cases hm : id ∈ s.A.map (·.1)
  · obtain ⟨q, hq, rfl⟩ := List.mem_map.1 hm
    rw [hR.val q.1 q.2 _ hq] at hv2
    injection hv2 with hv2
    subst hv2
    refine .inl ⟨q.2, hq, ?_⟩
    rw [hrun, hR.set.mem q.1, decide_eq_true hm]
  · have hhas : has D (.int .i64 id) = false := by rw [hR.set.mem id, decide_eq_false hm]
    rw [atKey_of_not_has hhas] at hv2
    injection hv2 with hv2
    subst hv2
    exact .inr ⟨hm, by rw [hrun, hhas]⟩
set_option maxRecDepth 100000 in
/-- _, is := p.was[id]; p.dropped[id]. -/
theorem unit_look {b n : Nat} {L : List Int} (h : unitM b n L w) (id : Int) (hid : (Lit.int .i64 id).wf = true) : (Instr.lookup 103 (.map (some b)) (.int .i64 id) true).run Tryz.prog w = .ok (.tuple #[.agg #[], .bool (decide (id ∈ L))]) w := by
  obtain ⟨D, ho, hR⟩ := h
  obtain ⟨v, ps, hrun, hv⟩ := ho.look_ok keyedI Tryz.underlying103 (show (zeroValue 151).run Tryz.prog w = .ok (.agg #[]) w from rfl) unitElem_mk (key_of hid)
  obtain ⟨rfl, _⟩ := unitElem_inv hv
  rw [hrun, hR.mem id]
end
end Go.Proofs.YtlocadmiomglaaaGreatDoor
