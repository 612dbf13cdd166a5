/- pile's Pile in a larger struct: Put and Take leave the other cells of its block. -/
import Derived.Test.YtedcpckocedcoaaPileP
namespace Go.Proofs.Ytedcpckocedcoaa
open Go.RowKit

/-- What holds as Put goes on: k of the numbers are there. -/
def PutRelO (pb base : Nat) (v0 : Value) (l0 zs : List Int) (w : World) (k : Nat) (wr : World) : Prop :=
  ∃ v l, PileI pb base v l wr ∧ l.Perm (l0 ++ zs.take k) ∧ Fr (pileF pb v0) w wr ∧ (∀ g, v.ownBlock = some g → Lies v0 g w.heap.size) ∧ Others pb 0 w wr

theorem PutRelO.step {pb base : Nat} {v0 v v' : Value} {l0 zs l l' : List Int} {w wr w2 : World} {k : Nat} (hk : k < zs.length) (hp : l.Perm (l0 ++ zs.take k)) (hF : Fr (pileF pb v0) w wr) (hL : ∀ g, v.ownBlock = some g → Lies v0 g w.heap.size) (hO : Others pb 0 w wr)
    (hI : PileI pb base v' l' w2) (hp' : l'.Perm (l ++ [HL.el zs k])) (hF' : Fr (fun i => i = pb ∨ v.ownBlock = some i) wr w2) (hL' : ∀ g, v'.ownBlock = some g → Lies v g wr.heap.size) (hO' : Others pb 0 wr w2) : PutRelO pb base v0 l0 zs w (k + 1) w2 := by
  refine ⟨v', l', hI, ?_, Fr.trans hF hF' (fun i hi hlt => ?_), fun g hg => ?_, hO.trans hO'⟩
  · have e : zs.take (k + 1) = zs.take k ++ [HL.el zs k] := by
      rw [List.take_succ_eq_append_getElem hk]
      have := HL.el_eq zs k hk
      rw [List.getElem?_eq_getElem hk] at this
      injection this with this
      rw [this]
    rw [e, ← List.append_assoc]
    exact hp'.trans (hp.append_right _)
  · rcases hi with hi | hi
    · exact .inl hi
    · rcases hL i hi with h | h
      · exact .inr h
      · omega
  · rcases hL' g hg with h | h
    · exact hL g h
    · exact .inr (Nat.le_trans hF.size h)

set_option maxHeartbeats 400000 in
set_option maxRecDepth 100000 in
theorem pile_put_o (pb base : Nat) (v : Value) (l zs : List Int) (p : Option Addr) (n c : Nat) (w : World) (h : PileI pb base v l w) (hz : RdI w w.heap.size p n zs) (hS : ∀ b o, p = some ⟨b, o, none⟩ → 0 < n → ¬ pileF pb v b) (hn : l.length + n < 1000000) :
    Calls Try.prog 25 #[.pointer (some ⟨pb, 0, none⟩), .slice p n c] w fun e w' => e = .returned (.tuple #[]) ∧
      ∃ v' l', PileI pb base v' l' w' ∧ l'.Perm (l ++ zs) ∧ Fr (pileF pb v) w w' ∧ (∀ g, v'.ownBlock = some g → Lies v g w.heap.size) ∧ Others pb 0 w w' := by
  have hzl := hz.1
  have hst : PutRelO pb base v l zs w 0 w := ⟨v, l, h, by simp, Fr.refl _ _, fun g hg => .inl hg, fun _ _ => ⟨rfl, rfl⟩⟩
  have HST := Lib.hid hst; clear hst h
  have HZ := Lib.hid hz; clear hz
  have HZL := Lib.hid hzl; clear hzl
  have HS := Lib.hid hS; clear hS
  go_enter Try.func25, Try.ntmps25
  go_wp2
  go_loopw [5, 10] (fun _ iv wr => ∃ k : Nat, k ≤ n ∧ iv = .int .i64 k ∧ PutRelO pb base v l zs w k wr) (fun _ iv _ => n - (intOf iv).toNat)
  case atStart => exact ⟨0, Nat.zero_le _, rfl, HST.out⟩
  case round =>
    clear HST
    obtain ⟨k, hk, rfl, v1, l1, hI, hp, hF, hL, hOT⟩ := hrel
    have HOT := Lib.hid hOT; clear hOT
    have hlen : l1.length ≤ l.length + k := by rw [hp.length_eq, List.length_append, List.length_take]; omega
    have HL1 := Lib.hid hL; clear hL
    by_cases hlt : k < n
    · obtain ⟨b, o, e, hb, hc⟩ := HZ.out.2 (by omega)
      have hcell := (hF.cell (p := ⟨b, o + k, none⟩) hb (HS.out b o e (by omega))).trans (hc k hlt)
      clear hc
      subst e
      have HP := Lib.hid (heap_push_nums pb 0 base v1 l1 (HL.el zs k) wr hI.1 hI.2 (by omega))
      clear hI
      generalize hx : HL.el zs k = x at *
      have HX := Lib.hid hx; clear hx
      go_wp2_with fail
      refine HP.out.mono ?_
      rintro e w2 ⟨rfl, v2, l2, hI2, hh2, hp2, hF2, hL2, hO2⟩
      have HR : Hid (PutRelO pb base v l zs w (k + 1) w2) := PutRelO.step (by rw [HZL.out]; exact hlt) hp hF HL1.out HOT.out ⟨hI2, hh2⟩ (by rw [HX.out]; exact hp2) hF2 hL2 hO2
      clear hI2 hh2 hp2 hF2 hL2 hO2
      go_wp2
      go_roundw
      case rel => exact ⟨k + 1, by omega, by go_num, HR.out⟩
      case measure => simp [intOf]; omega
    · have : k = n := by omega
      subst this
      go_wp2
      go_end0
      exact ⟨rfl, v1, l1, hI, by rw [List.take_of_length_le (by rw [HZL.out]; omega)] at hp; exact hp, hF, HL1.out, HOT.out⟩
set_option maxHeartbeats 400000 in
set_option maxRecDepth 100000 in
theorem pile_take_o (pb base : Nat) (v : Value) (l : List Int) (w : World) (h : PileI pb base v l w) (hn : 0 < l.length) :
  Calls Try.prog 27 #[.pointer (some ⟨pb, 0, none⟩)] w fun e w' => e = .returned (.tuple #[.int .i64 (HL.el l 0), .bool true]) ∧
  ∃ v' l', PileI pb base v' l' w' ∧ (HL.el l 0 :: l').Perm l ∧ Fr (fun k => k = pb ∨ v.ownBlock = some k) w w' ∧ v'.ownBlock = v.ownBlock ∧ Others pb 0 w w' := by
  have HL0 := Lib.hid (pile_len pb base v l w h)
  have HP := Lib.hid (heap_pop_nums pb 0 base v l w h.1 h.2 hn)
  have hne : ((l.length : Int) == 0) = false := by rw [beq_eq_false_iff_ne]; omega
  have hta := ta_int
  clear h
  generalize HL.el l 0 = x at *
  go_enter Try.func27, Try.ntmps27
  go_wp2_with fail
  refine HL0.out.mono ?_
  rintro e w' ⟨rfl, rfl⟩
  go_wp2_with fail
  refine HP.out.mono ?_
  rintro e w2 ⟨u, rfl, v', l', rfl, hI, hh, hp, hfr, hv', hoth⟩
  have HI := Lib.hid hI
  have HV := Lib.hid hv'
  have HF := Lib.hid hfr
  have HOT := Lib.hid hoth
  clear hI hv' hfr hoth
  go_wp2
  go_ret2
  exact ⟨rfl, v', l', ⟨HI.out, hh⟩, hp, HF.out, HV.out, HOT.out⟩
end Go.Proofs.Ytedcpckocedcoaa
