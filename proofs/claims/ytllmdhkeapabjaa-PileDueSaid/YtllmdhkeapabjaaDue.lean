/- arboretumlaw3.PileDue returns true, whatever its arguments; nothing that was there is changed. -/
import Derived.Test.YtllmdhkeapabjaaAlive
import Derived.Test.YtllmdhkeapabjaaDueL
import Derived.Deep.QuietTactic
import Derived.BigQuiet
namespace Go.Proofs.Ytllmdhkeapabjaa
open Go.RowKit

def DueRel1 (zs : List Int) (now : Int) (w : World) (lb : Nat) (i : Nat) (due : Int) (wr : World) : Prop :=
  ∃ v l, LineI lb lb v l i wr ∧ l.Perm (dl zs i) ∧ due = dueN zs now i ∧ Below lb w wr

def DueRel2 (zs : List Int) (n : Nat) (now : Int) (w : World) (lb : Nat) (k : Nat) (a s : Int) (wr : World) : Prop :=
  ∃ v l, LineI lb lb v l n wr ∧ TakeInv zs n now k l a s ∧ Below lb w wr

set_option maxHeartbeats 40000000 in
set_option maxRecDepth 100000 in
theorem pileDue_walk (p : Option Addr) (n c : Nat) (zs : List Int) (now : Int) (w : World) (h : RdI w w.heap.size p n zs) :
    Calls Try.prog 3 #[.slice p n c, .int .i64 now] w fun e w' => e = .returned (.bool true) ∧ Below w.heap.size w w' := by
  by_cases hn : 100 < n
  · clear h
    go_enter Try.func3, Try.ntmps3
    go_wp2_with (go_at_call 8; refine (alive_true _).mono ?_; rintro e w' ⟨rfl, hb⟩)
    go_ret
    exact ⟨rfl, hb⟩
  · have hn' : n ≤ 100 := by omega
    clear hn
    have HZ := Lib.hid h
    have HZL := Lib.hid h.1
    clear h
    go_enter Try.func3, Try.ntmps3
    go_wp2_with fail
    refine (line_new _).mono ?_
    rintro e w1 ⟨rfl, hL, hb⟩
    have HST : Hid (DueRel1 zs now w w.heap.size 0 0 w1) := ⟨_, [], hL, by simp [dl], by simp [dueN, dl], hb⟩
    clear hL hb
    go_wp2
    go_loopw [6, 7, 4] (fun dv_ iv _ wr => ∃ (i : Nat) (due : Int), i ≤ n ∧ iv = .int .i64 i ∧ dv_ = .int .i64 due ∧ DueRel1 zs now w w.heap.size i due wr) (fun _ iv _ _ => n - (intOf iv).toNat)
    case atStart => exact ⟨0, 0, Nat.zero_le _, rfl, rfl, HST.out⟩
    case round =>
      clear HST
      obtain ⟨i, due, hi, rfl, rfl, v, l, hL, hp, hd, hb⟩ := hrel
      have hdu := dueN_le zs now i
      have HD := Lib.hid hd
      have hd0 : 0 ≤ due ∧ due ≤ 100 := by omega
      obtain ⟨hd0, hd1⟩ := hd0
      clear hd hdu
      by_cases hlt : i < n
      · obtain ⟨b, o, e, hbl, hc⟩ := (HZ.out.below hb).2 (by omega)
        have hcell := hc i hlt
        clear hc
        subst e
        have hl : l.length < 1000000 := by rw [hp.length_eq, dl_length]; omega
        have HP := Lib.hid (line_put w.heap.size w.heap.size v l i (HL.el zs i) i wr hL (by omega) (by omega) hl)
        have HGE := Lib.hid (hL.ge (Nat.le_refl _))
        have HLP := Lib.hid hp
        have hbs := hb.size
        have HB := Lib.hid hb
        have HDS := Lib.hid (dueN_succ zs now i)
        clear hL hp hb
        generalize hx : HL.el zs i = x at *
        have HX := Lib.hid hx; clear hx
        go_wp2_with fail
        refine HP.out.mono ?_
        rintro e w2 ⟨rfl, v2, l2, hL2, hp2, hF2, _⟩
        have hb2 : Below w.heap.size wr w2 := hF2.below hbs HGE.out
        have hcell2 : w2.cell? ⟨b, o + i, none⟩ = some (.int .i64 x) := (hb2.cell hbl).trans hcell
        have HB2 := Lib.hid (HB.out.trans hb2)
        have HL2 := Lib.hid hL2
        have HP2 : Hid (l2.Perm (dl zs (i + 1))) := by
          rw [dl_succ, HX.out]
          exact hp2.trans (HLP.out.append_right _)
        clear hL2 hp2 hF2 hb2
        by_cases hxn : x ≤ now
        · go_wp2
          go_roundw
          case rel => exact ⟨i + 1, due + 1, by omega, by go_num, rfl, v2, l2, by simpa using HL2.out, HP2.out, by rw [HDS.out, HD.out, if_pos hxn]; omega, HB2.out⟩
          case measure => simp [intOf]; omega
        · go_wp2
          go_roundw
          case rel => exact ⟨i + 1, due, by omega, by go_num, rfl, v2, l2, by simpa using HL2.out, HP2.out, by rw [HDS.out, HD.out, if_neg (by omega)]; omega, HB2.out⟩
          case measure => simp [intOf]; omega
      · have : i = n := by omega
        subst this
        have HST : Hid (DueRel2 zs i now w w.heap.size 0 0 0 wr) := ⟨v, l, hL, TakeInv.start hp 0 0, hb⟩
        clear hL hp hb
        go_wp2
        obtain ⟨wo, hwo⟩ : ∃ wo : World, wo = wr := ⟨_, rfl⟩
        rw [← hwo]
        rw [← hwo] at HST
        clear hwo
        go_loopw [8, 9, 10, 11, 4, 12, 13] (fun av sv nv kv _ _ _ wr => ∃ (k : Nat) (a s : Int), k ≤ i ∧ av = .int .i64 a ∧ sv = .int .i64 s ∧ nv = .int .i64 k ∧ kv = .int .i64 k ∧ DueRel2 zs i now w w.heap.size k a s wr) (fun _ _ _ kv _ _ _ _ => i + 1 - (intOf kv).toNat)
        case atStart => exact ⟨0, 0, 0, Nat.zero_le _, rfl, rfl, rfl, rfl, HST.out⟩
        case round =>
          clear HST
          obtain ⟨k, a, s, hk, rfl, rfl, rfl, rfl, v, l, hL, hT, hb⟩ := hrel
          have hlen := hT.len
          have hbs := hb.size
          have HH := Lib.hid hL.2.2.2
          have HGE := Lib.hid (hL.ge (Nat.le_refl _))
          have HB := Lib.hid hb
          have HT := Lib.hid hT
          have HLI := Lib.hid hL
          clear hL hT hb
          by_cases hl0 : l.length = 0 ∨ now < (HL.el l 0).1
          · obtain ⟨hf1, hf2⟩ := HT.out.fin HH.out hl0
            have HTN : Hid (Calls Try.prog 11 #[.pointer (some ⟨w.heap.size, 0, none⟩), .int .i64 now] wr fun e w' => e = .returned (.tuple #[dv (0, 0, 0), .bool false]) ∧ Below wr.heap.size wr w') := by
              by_cases h0 : l.length = 0
              · have : l = [] := List.eq_nil_of_length_eq_zero h0
                subst this
                exact line_take_none _ _ _ _ _ _ HLI.out
              · exact line_take_early _ _ _ _ _ _ _ HLI.out (by omega) (by rcases hl0 with h | h; omega; exact h)
            have hkd : (k : Int) = due := by rw [HD.out]; omega
            have HKD : Hid (((k : Int) == due) = true) := by rw [beq_iff_eq]; exact hkd
            have hll : (l.length : Int) = (i : Int) - due := by omega
            have HLL := Lib.hid hll
            clear hl0 hf1 hf2 hkd hll hlen
            go_wp2_with fail
            refine HTN.out.mono ?_
            rintro e w2 ⟨rfl, hb2⟩
            have HB2 := Lib.hid (HB.out.trans (hb2.mono hbs))
            have HL2 := Lib.hid (HLI.out.keep (Fr.of_all (S := fun _ => False) hb2) (fun _ _ h => h))
            clear hb2
            go_wp2_with fail
            refine (alive_true _).mono ?_
            rintro e w3 ⟨rfl, hb3⟩
            have HB3 : Hid (Below w.heap.size w w3) := (HB2.out.alloc HB2.out.size _).trans (hb3.mono (by simp; have := HB2.out.size; omega))
            have HL3 := Lib.hid ((HL2.out.keep ((Fr.refl (fun _ => False) w2).alloc _) (fun _ _ h => h)).keep (Fr.of_all (S := fun _ => False) hb3) (fun _ _ h => h))
            clear hb3
            have hkd := HKD.out
            go_wp2_with fail
            refine (line_len _ _ v l _ _ HL3.out).mono ?_
            rintro e w4 ⟨rfl, rfl⟩
            rw [HLL.out]
            go_wp2
            go_ret
            exact ⟨by simp, HB3.out⟩
          · have hpos : 0 < l.length := by omega
            have hdn : (HL.el l 0).1 ≤ now := by omega
            obtain ⟨j, hj, ej⟩ := HT.out.head hpos
            obtain ⟨b, o, e, hbl, hc⟩ := (HZ.out.below HB.out).2 (by omega)
            subst e
            have hlat := HT.out.later hpos
            have HSTEP := Lib.hid (fun l' (hp : (HL.el l 0 :: l').Perm l) => HT.out.step HH.out hp hdn)
            have HTD := Lib.hid (line_take_due _ _ v l _ now wr HLI.out hpos hdn)
            have hcj := hc j hj
            clear hc hl0
            rw [ej] at HTD HSTEP hlat hdn
            have HEJ := Lib.hid ej
            clear ej
            generalize hx : HL.el zs j = x at *
            have HX := Lib.hid hx; clear hx
            have hki : k < i := by omega
            clear hlen
            go_wp2_with fail
            refine HTD.out.mono ?_
            rintro e w2 ⟨rfl, v2, l2, hL2, hp2, hF2, hv2⟩
            have hb2 : Below w.heap.size wr w2 := hF2.below hbs HGE.out
            have HB2 := Lib.hid (HB.out.trans hb2)
            have hcj2 : ∀ o', (w2.alloc o').cell? ⟨b, o + j, none⟩ = some (.int .i64 x) := fun o' => by rw [World.cell?_alloc_lt _ _ _ (by have := HB2.out.size; show b < _; omega)]; exact (hb2.cell hbl).trans hcj
            have HC2 := Lib.hid hcj2
            have HL2 := Lib.hid hL2
            have HS2 := Lib.hid (HSTEP.out _ hp2)
            clear hL2 hp2 hF2 hv2 hb2 hcj2 HSTEP
            go_wp2_with fail
            obtain ⟨W, hW⟩ : ∃ W, W = w2.alloc (.cells #[.int .i64 x, .int .i64 (↑j + 1), .int .i64 ↑j] 28) := ⟨_, rfl⟩
            rw [← hW]
            have HW : Hid ((W.cell? ⟨w2.heap.size, 0, none⟩ = some (.int .i64 x) ∧ W.cell? ⟨w2.heap.size, 1, none⟩ = some (.int .i64 (↑j + 1)) ∧ W.cell? ⟨w2.heap.size, 2, none⟩ = some (.int .i64 ↑j) ∧ W.cell? ⟨b, o + j, none⟩ = some (.int .i64 x)) ∧ Hid (DueRel2 zs i now w w.heap.size (k + 1) x (↑j + 1) W)) := by
              rw [hW]
              exact ⟨⟨by go_simp, by go_simp, by go_simp, HC2.out _⟩, v2, l2, HL2.out.keep ((Fr.refl (fun _ => False) w2).alloc _) (fun _ _ h => h), HS2.out, HB2.out.alloc HB2.out.size _⟩
            clear hW HC2 HL2 HS2
            have hg1 : decide (now < x) = false := by simp; omega
            have hcase : (k = 0) ∨ (0 < k ∧ a < x) ∨ (0 < k ∧ a = x ∧ s < ↑j + 1) := by
              rcases Nat.eq_zero_or_pos k with h0 | h0
              · exact .inl h0
              · rcases hlat h0 with h1 | h1
                · exact .inr (.inl ⟨h0, h1⟩)
                · exact .inr (.inr ⟨h0, h1⟩)
            clear hlat
            obtain ⟨⟨q0, q1, q2, q3⟩, HR⟩ := HW.out
            clear HW
            generalize w2.heap.size = db at *
            have HJ : Hid (j < i ∧ k < i) := ⟨hj, hki⟩
            have hj0 : decide ((j : Int) < 0) = false := by rw [decide_eq_false_iff_not]; omega
            have hj1 : decide (i ≤ j) = false := by rw [decide_eq_false_iff_not]; omega
            have hj2 : IntKind.i64.wrap ((j : Int) + 1) = (j : Int) + 1 := IntWalk.i64_in _ ⟨by omega, by omega⟩
            have hj3 : ((j : Int) + 1 != (j : Int) + 1) = false := by simp
            rcases hcase with hk0 | ⟨hk0, hax⟩ | ⟨hk0, rfl, hsj⟩
            · have hg2 : decide (0 < k) = false := by simp; omega
              have HK0 := Lib.hid hk0
              clear hk0
              go_quiet (fail)
              clear hj0 hj1 hj2 hj3 hg1 hg2
              go_wp2
              go_quiet (fail)
              go_wp2
              go_roundw
              case rel => exact ⟨k + 1, x, j + 1, by omega, rfl, rfl, by go_num, by go_num, by obtain ⟨v', l', h1, h2, h3⟩ := HR.out; exact ⟨v', l', h1, h2, below_drewN h3 _⟩⟩
              case measure => simp [intOf]; omega
            · have hg2 : decide (0 < k) = true := by simpa using hk0
              have hg3 : decide (x < a) = false := by simp; omega
              have hg4 : (x == a) = false := by rw [beq_eq_false_iff_ne]; omega
              clear hk0 hax
              go_quiet (fail)
              clear hj0 hj1 hj2 hj3 hg1 hg2 hg3 hg4
              go_wp2
              go_quiet (fail)
              go_wp2
              go_roundw
              case rel => exact ⟨k + 1, x, j + 1, by omega, rfl, rfl, by go_num, by go_num, by obtain ⟨v', l', h1, h2, h3⟩ := HR.out; exact ⟨v', l', h1, h2, below_drewN h3 _⟩⟩
              case measure => simp [intOf]; omega
            · have hg2 : decide (0 < k) = true := by simpa using hk0
              have hg3 : decide (a < a) = false := by simp
              have hg4 : (a == a) = true := by simp
              have hg5 : decide ((j : Int) + 1 ≤ s) = false := by simp; omega
              clear hk0 hsj
              go_quiet (fail)
              clear hj0 hj1 hj2 hj3 hg1 hg2 hg3 hg4 hg5
              go_wp2
              go_quiet (fail)
              go_wp2
              go_roundw
              case rel => exact ⟨k + 1, a, j + 1, by omega, rfl, rfl, by go_num, by go_num, by obtain ⟨v', l', h1, h2, h3⟩ := HR.out; exact ⟨v', l', h1, h2, below_drewN h3 _⟩⟩
              case measure => simp [intOf]; omega
end Go.Proofs.Ytllmdhkeapabjaa
