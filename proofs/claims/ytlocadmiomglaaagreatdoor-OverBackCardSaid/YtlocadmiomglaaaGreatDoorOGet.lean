/- over.walk of no pager and of a chain that is gone; Get, Pages, Drop. -/
import Derived.Test.YtlocadmiomglaaaGreatDoorOWalk
import Derived.Test.YtlocadmiomglaaaGreatDoorOverC
namespace Go.Proofs.YtlocadmiomglaaaGreatDoor
open Go.RowKit Go.Maps Go.Conc

set_option maxRecDepth 100000 in
theorem walk_none (id n : Int) (w : World) : Calls Tryz.prog 36 #[.pointer none, .int .i64 id, .int .i64 n] w fun e w' => e = .returned (.tuple #[.slice none 0 0, .string ByteArray.empty, .int .i64 1]) ∧ w' = w := by
  go_enter Tryz.func36, Tryz.ntmps36
  go_wp2
  (try simp only [Exit.inBlock, Exit.then])
  refine bodyPost_ret (results_tmp3 rfl _ _ _) rfl ?_
  exact ⟨rfl, rfl⟩

section
variable {pb base : Nat} {s : PgS} {U : Nat → Prop} {w w' : World} {m k : Nat}

set_option maxHeartbeats 1000000 in
set_option maxRecDepth 100000 in
/-- The first page is gone. -/
theorem walk_gone (id : Int) (n : Nat) (hn1 : 1 ≤ n) (hn2 : n ≤ 2000) (HRD : ∀ W, Below w.heap.size w W → Calls Tryz.prog 112 #[.pointer (some ⟨pb, 0, none⟩), .int .i64 id] W fun e w' => e = .returned (.tuple #[pgv 0 0 ByteArray.empty, .int .i64 7]) ∧ Below W.heap.size W w') :
    Calls Tryz.prog 36 #[.pointer (some ⟨pb, 0, none⟩), .int .i64 id, .int .i64 n] w fun e w' => e = .returned (.tuple #[.slice none 0 0, .string ByteArray.empty, .int .i64 7]) ∧ Below w.heap.size w w' := by
  have g1 : ¬ ((n : Int) < 1) := by omega
  have g2 : ¬ ((2000 : Int) < (n : Int)) := by omega
  unfold pgv at HRD
  have HRD := Lib.hid HRD
  clear hn1 hn2
  go_enter Tryz.func36, Tryz.ntmps36
  go_wp2
  go_loopw [11] (fun iv wr => iv = .int .i64 id ∧ Below w.heap.size w wr) (fun _ _ => 0)
  case atStart => exact ⟨rfl, (Below.refl _ w).alloc (Nat.le_refl _) _⟩
  case round =>
    obtain ⟨rfl, hb⟩ := hrel
    go_wp2_with fail
    refine (HRD.out wr hb).mono ?_
    rintro e w1 ⟨rfl, hb1⟩
    have HB1 : Hid (Below w.heap.size w (w1.alloc (.cells #[.int .i64 0, .int .i64 0, .string ByteArray.empty] 67))) := Lib.hid (hb.trans ((hb1.mono hb.size).alloc (Nat.le_trans hb.size hb1.size) _))
    clear hb hb1
    go_wp2
    (try simp only [Exit.inBlock, Exit.then])
    refine bodyPost_ret (results_tmp3 rfl _ _ _) rfl ?_
    exact ⟨rfl, HB1.out⟩

set_option maxRecDepth 100000 in
theorem over_get (p id n str code : Value) (T : World → Prop) (h : Calls Tryz.prog 36 #[p, id, n] w fun e w' => ∃ u, e = .returned (.tuple #[u, str, code]) ∧ T w') :
    Calls Tryz.prog 8 #[p, id, n] w fun e w' => e = .returned (.tuple #[str, code]) ∧ T w' := by
  have H := Lib.hid h
  clear h
  go_enter Tryz.func8, Tryz.ntmps8
  go_wp2_with fail
  refine H.out.mono ?_
  rintro e w1 ⟨u, rfl, hT⟩
  have HT := Lib.hid hT
  clear hT
  go_wp2
  go_ret2
  exact ⟨rfl, HT.out⟩

set_option maxRecDepth 100000 in
theorem over_pages (p id n code : Value) (T : Value → World → Prop) (h : Calls Tryz.prog 36 #[p, id, n] w fun e w' => ∃ u str, e = .returned (.tuple #[u, str, code]) ∧ T u w') :
    Calls Tryz.prog 9 #[p, id, n] w fun e w' => ∃ u, e = .returned (.tuple #[u, code]) ∧ T u w' := by
  have H := Lib.hid h
  clear h
  go_enter Tryz.func9, Tryz.ntmps9
  go_wp2_with fail
  refine H.out.mono ?_
  rintro e w1 ⟨u, str, rfl, hT⟩
  have HT := Lib.hid hT
  clear hT
  go_wp2
  go_ret2
  exact ⟨u, rfl, HT.out⟩
end
end Go.Proofs.YtlocadmiomglaaaGreatDoor
