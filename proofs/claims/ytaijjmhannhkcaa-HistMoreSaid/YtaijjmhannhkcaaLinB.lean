/- hist.Linear of events of two keys or of a kind that is none: it says so. -/
import Derived.Test.YtaijjmhannhkcaaLin
namespace Go.Proofs.Ytaijjmhannhkcaa
open Go.RowKit Go.Maps

set_option maxHeartbeats 8000000 in
set_option maxRecDepth 100000 in
theorem linear_bad (lp : Option Addr) (m ec : Nat) (zs : List Ev) (w : World) (h : RdG evc w w.heap.size lp m zs) (hm : m ≤ 16) (hb : ∃ i, i < m ∧ ¬ GoodE zs i) :
    Calls Try.prog 7 #[.slice lp m ec] w fun e w' => e = .returned (.tuple #[.bool false, .int .i64 1]) ∧ Below w.heap.size w w' := by
  obtain ⟨i0, hi0, hz0, hz1, hz2⟩ := info_parts info_ev
  have HR := Lib.hid h
  have HX := Lib.hid hb
  clear h hb
  go_enter Try.func7, Try.ntmps7
  go_wp2
  go_loopw [13] (fun iv wr => ∃ k : Nat, k ≤ m ∧ iv = .int .i64 k ∧ Hid (Below w.heap.size w wr) ∧ Hid (∀ i, i < k → GoodE zs i)) (fun iv _ => m - (intOf iv).toNat)
  case atStart => exact ⟨0, Nat.zero_le _, rfl, Lib.hid (Below.refl _ _), Lib.hid (fun i hi => by omega)⟩
  case round =>
    obtain ⟨k, hk, rfl, HB, HG⟩ := hrel
    by_cases hlt : k < m
    · have hltI : (k : Int) < (m : Int) := by omega
      have hmI : (0 : Int) < (m : Int) := by omega
      have hRr := HR.out.below HB.out
      obtain ⟨b, o, elp, hb9, hcell⟩ := ev_cell hRr k hlt
      obtain ⟨b', o', elp', _, hcel0⟩ := ev_cell hRr 0 (by omega)
      rw [elp] at elp'
      injection elp' with e9
      injection e9 with e1 e2 _
      subst e1 e2 elp
      have HGK : Hid (GoodE zs k ↔ ((zs.getD k default).key = (zs.getD 0 default).key ∧ 1 ≤ (zs.getD k default).kind ∧ (zs.getD k default).kind ≤ 4)) := Lib.hid Iff.rfl
      have HNX : Hid (GoodE zs k → ∀ i, i < k + 1 → GoodE zs i) := Lib.hid (fun hg i hi => by
        by_cases e : i = k
        · subst e; exact hg
        · exact HG.out i (by omega))
      have k0 : wr.cell? ⟨b, o + 5, none⟩ = some (.string (zs.getD 0 default).key) := by
        have := hcel0 5 _ rfl (by omega)
        rw [Nat.zero_mul, Nat.add_zero] at this
        exact this
      generalize (zs.getD 0 default).key = key0 at *
      generalize zs.getD k default = ev at *
      obtain ⟨client, num, kind, sess, sq, key, val, old, err, rval, rnum, frm, to, done⟩ := ev
      have d0 : wr.cell? ⟨b, o + k * 14, none⟩ = some (.int .i64 client) := hcell 0 _ rfl (by omega)
      have d1 : wr.cell? ⟨b, o + k * 14 + 1, none⟩ = some (.int .i64 num) := hcell 1 _ rfl (by omega)
      have d2 : wr.cell? ⟨b, o + k * 14 + 2, none⟩ = some (.int .i64 kind) := hcell 2 _ rfl (by omega)
      have d3 : wr.cell? ⟨b, o + k * 14 + 3, none⟩ = some (.int .i64 sess) := hcell 3 _ rfl (by omega)
      have d4 : wr.cell? ⟨b, o + k * 14 + 4, none⟩ = some (.int .i64 sq) := hcell 4 _ rfl (by omega)
      have d5 : wr.cell? ⟨b, o + k * 14 + 5, none⟩ = some (.string key) := hcell 5 _ rfl (by omega)
      have d6 : wr.cell? ⟨b, o + k * 14 + 6, none⟩ = some (.string val) := hcell 6 _ rfl (by omega)
      have d7 : wr.cell? ⟨b, o + k * 14 + 7, none⟩ = some (.string old) := hcell 7 _ rfl (by omega)
      have d8 : wr.cell? ⟨b, o + k * 14 + 8, none⟩ = some (.int .i64 err) := hcell 8 _ rfl (by omega)
      have d9 : wr.cell? ⟨b, o + k * 14 + 9, none⟩ = some (.string rval) := hcell 9 _ rfl (by omega)
      have d10 : wr.cell? ⟨b, o + k * 14 + 10, none⟩ = some (.int .i64 rnum) := hcell 10 _ rfl (by omega)
      have d11 : wr.cell? ⟨b, o + k * 14 + 11, none⟩ = some (.int .i64 frm) := hcell 11 _ rfl (by omega)
      have d12 : wr.cell? ⟨b, o + k * 14 + 12, none⟩ = some (.int .i64 to) := hcell 12 _ rfl (by omega)
      have d13 : wr.cell? ⟨b, o + k * 14 + 13, none⟩ = some (.bool done) := hcell 13 _ rfl (by omega)
      have hal : Below wr.heap.size wr (wr.alloc (.cells #[.int .i64 client, .int .i64 num, .int .i64 kind, .int .i64 sess, .int .i64 sq, .string key, .string val, .string old, .int .i64 err, .string rval, .int .i64 rnum, .int .i64 frm, .int .i64 to, .bool done] 29)) := (Below.refl _ wr).alloc (Nat.le_refl _) _
      have hrow := heap_alloc_new wr (.cells #[.int .i64 client, .int .i64 num, .int .i64 kind, .int .i64 sess, .int .i64 sq, .string key, .string val, .string old, .int .i64 err, .string rval, .int .i64 rnum, .int .i64 frm, .int .i64 to, .bool done] 29)
      have l0 := cell_lt k0
      generalize hW : (wr.alloc (.cells #[.int .i64 client, .int .i64 num, .int .i64 kind, .int .i64 sess, .int .i64 sq, .string key, .string val, .string old, .int .i64 err, .string rval, .int .i64 rnum, .int .i64 frm, .int .i64 to, .bool done] 29)) = wa at *
      have hza : wa.heap.size = wr.heap.size + 1 := by rw [← hW]; simp
      have q0 : ∀ q : Later wa, q.1.cell? ⟨b, o + 5, none⟩ = some (.string key0) := fun q => ((hal.trans (q.2.mono hal.size)).cell (p := ⟨b, o + 5, none⟩) l0).trans k0
      have q5 : ∀ q : Later wa, q.1.cell? ⟨wr.heap.size, 5, none⟩ = some (.string key) := fun q => (q.2.cell (p := ⟨wr.heap.size, 5, none⟩) (by show wr.heap.size < _; omega)).trans (by rw [cell_of_row _ _ _ _ _ _ hrow]; rfl)
      have q2 : ∀ q : Later wa, q.1.cell? ⟨wr.heap.size, 2, none⟩ = some (.int .i64 kind) := fun q => (q.2.cell (p := ⟨wr.heap.size, 2, none⟩) (by show wr.heap.size < _; omega)).trans (by rw [cell_of_row _ _ _ _ _ _ hrow]; rfl)
      have HBA : Hid (Below w.heap.size w wa) := Lib.hid (HB.out.trans (hal.mono HB.out.size))
      clear hcell hcel0 k0 hal hrow l0 hza hRr
      by_cases hkey : key = key0
      · subst hkey
        by_cases hk1 : kind < 1
        · have p1 : decide (kind < 1) = true := decide_eq_true hk1
          clear hk1 HNX HGK HG
          go_wp2
          clear d0 d1 d2 d3 d4 d5 d6 d7 d8 d9 d10 d11 d12 d13 hW
          refine wp_region_later (by kernel_rfl) (by kernel_rfl) ?_
          repeat (go_big_quiet_step (fail))
          refine wpQuiet_nil ?_
          intro W1 hw'
          obtain ⟨⟨wq, hq⟩, hw''⟩ := hw'
          subst hw''
          have HB1 := Lib.hid (HBA.out.trans (hq.mono HBA.out.size))
          clear q0 q5 q2 p1 hq
          go_wp2
          go_ret2
          exact ⟨rfl, HB1.out⟩
        · have p1 : decide (kind < 1) = false := decide_eq_false hk1
          by_cases hk4 : 4 < kind
          · have p2 : decide (4 < kind) = true := decide_eq_true hk4
            clear hk1 hk4 HNX HGK HG
            go_wp2
            clear d0 d1 d2 d3 d4 d5 d6 d7 d8 d9 d10 d11 d12 d13 hW
            refine wp_region_later (by kernel_rfl) (by kernel_rfl) ?_
            repeat (go_big_quiet_step (fail))
            refine wpQuiet_nil ?_
            intro W1 hw'
            obtain ⟨⟨wq, hq⟩, hw''⟩ := hw'
            subst hw''
            have HB1 := Lib.hid (HBA.out.trans (hq.mono HBA.out.size))
            clear q0 q5 q2 p1 p2 hq
            go_wp2
            go_ret2
            exact ⟨rfl, HB1.out⟩
          · have p2 : decide (4 < kind) = false := decide_eq_false hk4
            have HG2 := Lib.hid (HNX.out (HGK.out.2 ⟨rfl, (show (1 : Int) ≤ kind by omega), (show kind ≤ 4 by omega)⟩))
            clear hk1 hk4 HNX HGK HG
            go_wp2
            clear d0 d1 d2 d3 d4 d5 d6 d7 d8 d9 d10 d11 d12 d13 hW
            refine wp_region_later (by kernel_rfl) (by kernel_rfl) ?_
            repeat (go_big_quiet_step (fail))
            refine wpQuiet_nil ?_
            intro W1 hw'
            obtain ⟨⟨wq, hq⟩, hw''⟩ := hw'
            subst hw''
            have HB1 := Lib.hid (HBA.out.trans (hq.mono HBA.out.size))
            clear q0 q5 q2 p1 p2 hq
            go_wp2
            go_roundw
            case rel => exact ⟨k + 1, by omega, by simp, HB1, HG2⟩
            case measure => simp [intOf]; omega
      · have p0 : (key.toList == key0.toList) = false := str_ne hkey
        clear hkey HNX HGK HG
        go_wp2
        clear d0 d1 d2 d3 d4 d5 d6 d7 d8 d9 d10 d11 d12 d13 hW
        refine wp_region_later (by kernel_rfl) (by kernel_rfl) ?_
        repeat (go_big_quiet_step (fail))
        refine wpQuiet_nil ?_
        intro W1 hw'
        obtain ⟨⟨wq, hq⟩, hw''⟩ := hw'
        subst hw''
        have HB1 := Lib.hid (HBA.out.trans (hq.mono HBA.out.size))
        clear q0 q5 q2 p0 hq
        go_wp2
        go_ret2
        exact ⟨rfl, HB1.out⟩
    · exfalso
      obtain ⟨i, hi, hn⟩ := HX.out
      exact hn (HG.out i (by omega))
end Go.Proofs.Ytaijjmhannhkcaa
