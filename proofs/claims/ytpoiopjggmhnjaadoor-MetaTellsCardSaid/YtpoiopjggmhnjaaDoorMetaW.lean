/- meta: Write. -/
import Derived.Test.YtpoiopjggmhnjaaDoorMetaG
namespace Go.Proofs.YtpoiopjggmhnjaaDoor
open Go.RowKit

set_option maxHeartbeats 2000000 in
set_option maxRecDepth 100000 in
theorem meta_write {db base : Nat} {m0 lf : Int} {sy nw : List ByteArray} {ws : List Wr} {F : Nat → Prop} {w : World} (m : Mt) (hm : m.ok) (h : Dv db base m0 true false lf sy nw ws F w) (hk : 2 ≤ nw.length) (hw : ws.length < 1000) (hlf : lf ≤ 1000000) :
    Calls Tryd.prog 19 #[.pointer (some ⟨db, 0, none⟩), mtv m] w fun e w' => e = .returned (.int .i64 0) ∧ ∃ F', Dv db base m0 true false lf sy (nw.set (m.txn % 2) (metaP m)) (ws ++ [(((m.txn % 2 : Nat) : Int), metaP m)]) F' w' ∧ Step F F' w w' := by
  have HPU := Lib.hid (fun w => meta_put m w hm)
  have HPL := Lib.hid (fun w => meta_place m.txn w (by have := hm 0 (by omega); simp only [Mt.l, HL.el, List.getD_cons_zero] at this; omega))
  have hsz : (metaP m).size = 256 := sealS_size _ _ _ _ (by rw [metaS_size]; simp [Mt.l])
  have HWR : Hid (∀ W, Below w.heap.size w W → Calls Tryd.prog 17 #[.pointer (some ⟨db, 0, none⟩), .int .i64 ((m.txn % 2 : Nat) : Int), .string (metaP m)] W fun e w' => e = .returned (.int .i64 0) ∧ ∃ F', Dv db base m0 true false lf sy (nw.set (m.txn % 2) (metaP m)) (ws ++ [(((m.txn % 2 : Nat) : Int), metaP m)]) F' w' ∧ Step F F' w w') := Lib.hid (fun W hb => by
    have hF : Fr (fun _ => False) w W := Fr.of_all (S := fun _ => False) hb
    refine (dv_write (m.txn % 2) (metaP m) (h.keep hF (fun _ _ h => h)) (by omega) hsz hw hlf).mono ?_
    rintro e w' ⟨he, F', hD, hst⟩
    have e1 : opFl false lf = false := by simp [opFl]
    have e2 : opLf false lf = lf := by simp [opLf]
    rw [e1, e2] at hD
    rw [e1] at he
    exact ⟨he, F', hD, Fr.trans (hF.mono (fun _ _ h => h.elim)) hst.1 (fun i hi _ => hi), fun k hk => (hst.2 k hk).imp id (fun h => Nat.le_trans hF.size h)⟩)
  clear hm h hk hw hlf hsz
  unfold mtv at *
  generalize metaP m = page at *
  go_enter Tryd.func19, Tryd.ntmps19
  have hB : Hid (∀ a, Below w.heap.size w (w.alloc a)) := Lib.hid (fun a => (Below.refl _ w).alloc (Nat.le_refl _) _)
  have b0 : (w.alloc (.cells #[.int .i64 m.txn, .int .i64 m.root, .int .i64 m.free, .int .i64 m.pages] 23)).cell? ⟨w.heap.size, 0, none⟩ = some (.int .i64 m.txn) := by go_simp
  have HB0 := Lib.hid b0
  clear b0
  go_wp2_with fail
  refine (HPU.out _).mono ?_
  rintro e w1 ⟨rfl, hb1⟩
  have hb0 := (hb1.cell (p := ⟨w.heap.size, 0, none⟩) (by simp)).trans HB0.out
  have HB1 : Hid (Below w.heap.size w w1) := Lib.hid ((hB.out _).trans (hb1.mono (by simp)))
  clear hb1
  go_wp2_with fail
  refine (HPL.out _).mono ?_
  rintro e w2 ⟨rfl, rfl⟩
  have HW := Lib.hid (HWR.out _ HB1.out)
  go_wp2_with fail
  refine HW.out.mono ?_
  rintro e w3 ⟨rfl, hx⟩
  have HX := Lib.hid hx
  clear hx
  go_wp2
  go_ret
  exact ⟨rfl, HX.out⟩
end Go.Proofs.YtpoiopjggmhnjaaDoor
