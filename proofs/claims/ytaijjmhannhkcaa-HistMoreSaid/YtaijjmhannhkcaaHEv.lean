/- hist: events as values; Sure, sure, do. -/
import Derived.Test.YtaijjmhannhkcaaHistS
import Derived.Test.YtaijjmhannhkcaaFr
import Derived.Test.YtaijjmhannhkcaaInts
namespace Go.Proofs.Ytaijjmhannhkcaa
open Go.RowKit

def opV (e : Ev) : Value := .agg #[.int .i64 e.kind, .int .i64 e.sess, .int .i64 e.sq, .string e.key, .string e.val, .string e.old]
def evV (e : Ev) : Value := .agg #[.int .i64 e.client, .int .i64 e.num, .int .i64 e.kind, .int .i64 e.sess, .int .i64 e.sq, .string e.key, .string e.val, .string e.old, .int .i64 e.err, .string e.rval, .int .i64 e.rnum, .int .i64 e.frm, .int .i64 e.to, .bool e.done]
def evc (e : Ev) : List Value := [.int .i64 e.client, .int .i64 e.num, .int .i64 e.kind, .int .i64 e.sess, .int .i64 e.sq, .string e.key, .string e.val, .string e.old, .int .i64 e.err, .string e.rval, .int .i64 e.rnum, .int .i64 e.frm, .int .i64 e.to, .bool e.done]
theorem evc_length (e : Ev) : (evc e).length = 14 := rfl

set_option maxRecDepth 100000 in
theorem hist_Sure (err : Int) (v : ByteArray) (n : Int) (w : World) : Calls Try.prog 15 #[.agg #[.int .i64 err, .string v, .int .i64 n]] w fun e w' => e = .returned (.bool (sureR err)) ∧ Below w.heap.size w w' := by
  unfold sureR
  cases h0 : (err == 0)
  · cases h7 : (err == 7)
    · cases h26 : (err == 26)
      all_goals
        go_enter Try.func15, Try.ntmps15
        go_wp2
        go_ret
        exact ⟨rfl, (Below.refl _ w).alloc (Nat.le_refl _) _⟩
    · go_enter Try.func15, Try.ntmps15
      go_wp2
      go_ret
      exact ⟨rfl, (Below.refl _ w).alloc (Nat.le_refl _) _⟩
  · go_enter Try.func15, Try.ntmps15
    go_wp2
    go_ret
    exact ⟨rfl, (Below.refl _ w).alloc (Nat.le_refl _) _⟩

set_option maxRecDepth 100000 in
theorem hist_sure (e : Ev) (w : World) : Calls Try.prog 17 #[evV e] w fun e' w' => e' = .returned (.bool e.sure) ∧ Below w.heap.size w w' := by
  have HS := Lib.hid (fun w => hist_Sure e.err e.rval e.rnum w)
  have hb : e.sure = (e.done && sureR e.err) := rfl
  rw [hb]
  unfold evV
  have hB : ∀ X, Below w.heap.size w (w.alloc X) := fun X => (Below.refl _ w).alloc (Nat.le_refl _) _
  have HB := Lib.hid hB
  clear hB hb
  cases hd : e.done
  · go_enter Try.func17, Try.ntmps17
    go_wp2
    go_ret
    exact ⟨rfl, HB.out _⟩
  · go_enter Try.func17, Try.ntmps17
    go_wp2_with fail
    refine (HS.out _).mono ?_
    rintro e w1 ⟨rfl, hb1⟩
    go_wp2
    go_ret
    exact ⟨by simp, (HB.out _).trans (hb1.mono (by simp))⟩

theorem str_ne {a b : ByteArray} (h : ¬ a = b) : (a.toList == b.toList) = false := by
  rw [ByteArray.toList_eq, ByteArray.toList_eq, beq_eq_false_iff_ne]
  intro e
  exact h (ByteArray.ext (Array.toList_inj.1 e))

theorem res_cells2 {fn : Func} {p q : Tmp} {t u : TypeId} (h : fn.results = #[.cell p t, .cell q u]) (tmps : Array Value) (P : Program) (W : World) (a b : Addr) (x y : Value) (ha : tmps.getD p undef = .pointer (some a)) (hb : tmps.getD q undef = .pointer (some b))
    (hx : (loadVar t a).run P W = .ok x W) (hy : (loadVar u b).run P W = .ok y W) : (results fn tmps).run P W = .ok (.tuple #[x, y]) W := by
  have ha' : tmps[p]?.getD undef = .pointer (some a) := by simpa using ha
  have hb' : tmps[q]?.getD undef = .pointer (some b) := by simpa using hb
  simp only [results, h]
  simp [Sem.run_bind, Result.andThen, ha', hb', hx, hy, asAddr]

set_option maxHeartbeats 1000000 in
set_option maxRecDepth 100000 in
theorem hist_do (b : Bool) (v : ByteArray) (e : Ev) (w : World) : Calls Try.prog 32 #[.agg #[.bool b, .string v], opV e] w fun e' w' => e' = .returned (.tuple #[.agg #[.bool (doE (b, v) e).1.1, .string (doE (b, v) e).1.2], .agg #[.int .i64 (doE (b, v) e).2.1, .string (doE (b, v) e).2.2, .int .i64 0]]) ∧ Below w.heap.size w w' := by
  have HB : Hid (∀ X Y Z V, Below w.heap.size w ((((w.alloc X).alloc Y).alloc Z).alloc V)) := Lib.hid (fun X Y Z V => ((((Below.refl _ w).alloc (Nat.le_refl _) X).alloc (by simp) Y).alloc (by simp; omega) Z).alloc (by simp; omega) V)
  unfold opV
  by_cases k1 : e.kind = 1
  · have hd : doE (b, v) e = ((true, e.val), (0, ByteArray.empty)) := by unfold doE; rw [if_pos k1]
    rw [hd]
    have q1 : (e.kind == 1) = true := by simpa using k1
    clear k1 hd
    go_enter Try.func32, Try.ntmps32
    go_wp2
    (try simp only [Exit.inBlock, Exit.then])
    refine bodyPost_ret (res_cells2 rfl _ _ _ ⟨w.heap.size + 1 + 1, 0, none⟩ ⟨w.heap.size + 1 + 1 + 1, 0, none⟩ (.agg #[.bool true, .string e.val]) (.agg #[.int .i64 0, .string ByteArray.empty, .int .i64 0]) rfl rfl (by go_simp; first | done | rfl) (by go_simp; first | done | rfl)) rfl ⟨rfl, ?_⟩
    exact HB.out _ _ _ _
  have q1 : (e.kind == 1) = false := by simpa using k1
  cases b
  · have hd : doE (false, v) e = ((false, v), (7, ByteArray.empty)) := by unfold doE; rw [if_neg k1, if_pos rfl]
    rw [hd]
    clear k1 hd
    go_enter Try.func32, Try.ntmps32
    go_wp2
    (try simp only [Exit.inBlock, Exit.then])
    refine bodyPost_ret (res_cells2 rfl _ _ _ ⟨w.heap.size + 1 + 1, 0, none⟩ ⟨w.heap.size + 1 + 1 + 1, 0, none⟩ (.agg #[.bool false, .string v]) (.agg #[.int .i64 7, .string ByteArray.empty, .int .i64 0]) rfl rfl (by go_simp; first | done | rfl) (by go_simp; first | done | rfl)) rfl ⟨rfl, ?_⟩
    exact HB.out _ _ _ _
  by_cases k4 : e.kind = 4
  · have hd : doE (true, v) e = ((true, v), (0, v)) := by unfold doE; rw [if_neg k1, if_neg (by simp), if_pos k4]
    rw [hd]
    have q4 : (e.kind == 4) = true := by simpa using k4
    clear k1 k4 hd
    go_enter Try.func32, Try.ntmps32
    go_wp2
    go_region
    all_goals (try go_wp2)
    all_goals (try simp only [Exit.inBlock, Exit.then])
    all_goals refine bodyPost_ret (res_cells2 rfl _ _ _ ⟨w.heap.size + 1 + 1, 0, none⟩ ⟨w.heap.size + 1 + 1 + 1, 0, none⟩ (.agg #[.bool true, .string v]) (.agg #[.int .i64 0, .string v, .int .i64 0]) rfl rfl (by go_simp; first | done | rfl) (by go_simp; first | done | rfl)) rfl ⟨rfl, ?_⟩
    all_goals exact (HB.out _ _ _ _).drew
  have q4 : (e.kind == 4) = false := by simpa using k4
  by_cases k2 : e.kind = 2
  · have hd : doE (true, v) e = ((false, ByteArray.empty), (0, ByteArray.empty)) := by unfold doE; rw [if_neg k1, if_neg (by simp), if_neg k4, if_pos k2]
    rw [hd]
    have q2 : (e.kind == 2) = true := by simpa using k2
    clear k1 k2 k4 hd
    go_enter Try.func32, Try.ntmps32
    go_wp2
    (try simp only [Exit.inBlock, Exit.then])
    refine bodyPost_ret (res_cells2 rfl _ _ _ ⟨w.heap.size + 1 + 1, 0, none⟩ ⟨w.heap.size + 1 + 1 + 1, 0, none⟩ (.agg #[.bool false, .string ByteArray.empty]) (.agg #[.int .i64 0, .string ByteArray.empty, .int .i64 0]) rfl rfl (by go_simp; first | done | rfl) (by go_simp; first | done | rfl)) rfl ⟨rfl, ?_⟩
    exact HB.out _ _ _ _
  have q2 : (e.kind == 2) = false := by simpa using k2
  by_cases ko : v = e.old
  · have hd : doE (true, v) e = ((true, e.val), (0, ByteArray.empty)) := by unfold doE; rw [if_neg k1, if_neg (by simp), if_neg k4, if_neg k2, if_neg (by simpa using ko)]
    rw [hd]
    rw [← ko]
    clear k1 k2 k4 hd ko
    go_enter Try.func32, Try.ntmps32
    go_wp2
    (try simp only [Exit.inBlock, Exit.then])
    refine bodyPost_ret (res_cells2 rfl _ _ _ ⟨w.heap.size + 1 + 1, 0, none⟩ ⟨w.heap.size + 1 + 1 + 1, 0, none⟩ (.agg #[.bool true, .string e.val]) (.agg #[.int .i64 0, .string ByteArray.empty, .int .i64 0]) rfl rfl (by go_simp; first | done | rfl) (by go_simp; first | done | rfl)) rfl ⟨rfl, ?_⟩
    exact HB.out _ _ _ _
  · have hd : doE (true, v) e = ((true, v), (26, v)) := by unfold doE; rw [if_neg k1, if_neg (by simp), if_neg k4, if_neg k2, if_pos (by simpa using ko)]
    rw [hd]
    have qo : (v.toList == e.old.toList) = false := str_ne ko
    clear k1 k2 k4 hd ko
    go_enter Try.func32, Try.ntmps32
    go_wp2
    go_region
    all_goals (try go_wp2)
    all_goals (try simp only [Exit.inBlock, Exit.then])
    all_goals refine bodyPost_ret (res_cells2 rfl _ _ _ ⟨w.heap.size + 1 + 1, 0, none⟩ ⟨w.heap.size + 1 + 1 + 1, 0, none⟩ (.agg #[.bool true, .string v]) (.agg #[.int .i64 26, .string v, .int .i64 0]) rfl rfl (by go_simp; first | done | rfl) (by go_simp; first | done | rfl)) rfl ⟨rfl, ?_⟩
    all_goals exact (HB.out _ _ _ _).drew
end Go.Proofs.Ytaijjmhannhkcaa
