/- pile's Pile: the contract of Put. -/
import Derived.Test.YtmfidemkmmbioaaGreatPile
namespace Go.Proofs.YtmfidemkmmbioaaGreat
open Go.RowKit

def pileF (pb : Nat) (v : Value) : Nat → Prop := fun k => k = pb ∨ v.ownBlock = some k

/-- What holds as Put goes on: k of the numbers are there. -/
def PutRel (pb base : Nat) (v0 : Value) (l0 zs : List Int) (w : World) (k : Nat) (wr : World) : Prop :=
  ∃ v l, PileI pb base v l wr ∧ l.Perm (l0 ++ zs.take k) ∧ Fr (pileF pb v0) w wr ∧ (∀ g, v.ownBlock = some g → Lies v0 g w.heap.size)

theorem PutRel.step {pb base : Nat} {v0 v v' : Value} {l0 zs l l' : List Int} {w wr w2 : World} {k : Nat} (hk : k < zs.length) (hp : l.Perm (l0 ++ zs.take k)) (hF : Fr (pileF pb v0) w wr) (hL : ∀ g, v.ownBlock = some g → Lies v0 g w.heap.size)
    (hI : PileI pb base v' l' w2) (hp' : l'.Perm (l ++ [HL.el zs k])) (hF' : Fr (fun i => i = pb ∨ v.ownBlock = some i) wr w2) (hL' : ∀ g, v'.ownBlock = some g → Lies v g wr.heap.size) : PutRel pb base v0 l0 zs w (k + 1) w2 := by
  refine ⟨v', l', hI, ?_, Fr.trans hF hF' (fun i hi hlt => ?_), fun g hg => ?_⟩
  · have e : zs.take (k + 1) = zs.take k ++ [HL.el zs k] := by
      rw [List.take_succ_eq_append_getElem hk]
      have := HL.el_eq zs k hk
      rw [List.getElem?_eq_getElem hk] at this
      injection this with this
      rw [this]
    rw [e, ← List.append_assoc]
    exact hp'.trans (hp.append_right _)
  · rcases hi with hi | hi
    · exact .inl hi
    · rcases hL i hi with h | h
      · exact .inr h
      · omega
  · rcases hL' g hg with h | h
    · exact hL g h
    · exact .inr (Nat.le_trans hF.size h)

set_option maxHeartbeats 400000 in
set_option maxRecDepth 100000 in
theorem pile_put (pb base : Nat) (v : Value) (l zs : List Int) (p : Option Addr) (n c : Nat) (w : World) (h : PileI pb base v l w) (hz : RdI w w.heap.size p n zs) (hS : ∀ b o, p = some ⟨b, o, none⟩ → 0 < n → ¬ pileF pb v b) (hn : l.length + n < 1000000) :
    Calls Tryz.prog 38 #[.pointer (some ⟨pb, 0, none⟩), .slice p n c] w fun e w' => e = .returned (.tuple #[]) ∧
      ∃ v' l', PileI pb base v' l' w' ∧ l'.Perm (l ++ zs) ∧ Fr (pileF pb v) w w' ∧ (∀ g, v'.ownBlock = some g → Lies v g w.heap.size) := by
  have hzl := hz.1
  have hst : PutRel pb base v l zs w 0 w := ⟨v, l, h, by simp, Fr.refl _ _, fun g hg => .inl hg⟩
  have HST := Lib.hid hst; clear hst h
  have HZ := Lib.hid hz; clear hz
  have HZL := Lib.hid hzl; clear hzl
  have HS := Lib.hid hS; clear hS
  go_enter Tryz.func38, Tryz.ntmps38
  go_wp2
  go_loopw [5, 10] (fun _ iv wr => ∃ k : Nat, k ≤ n ∧ iv = .int .i64 k ∧ PutRel pb base v l zs w k wr) (fun _ iv _ => n - (intOf iv).toNat)
  case atStart => exact ⟨0, Nat.zero_le _, rfl, HST.out⟩
  case round =>
    clear HST
    obtain ⟨k, hk, rfl, v1, l1, hI, hp, hF, hL⟩ := hrel
    have hlen : l1.length ≤ l.length + k := by rw [hp.length_eq, List.length_append, List.length_take]; omega
    have HL1 := Lib.hid hL; clear hL
    by_cases hlt : k < n
    · obtain ⟨b, o, e, hb, hc⟩ := HZ.out.2 (by omega)
      have hcell := (hF.cell (p := ⟨b, o + k, none⟩) hb (HS.out b o e (by omega))).trans (hc k hlt)
      clear hc
      subst e
      have HP := Lib.hid (heap_push_nums pb 0 base v1 l1 (HL.el zs k) wr hI.1 hI.2 (by omega))
      clear hI
      generalize hx : HL.el zs k = x at *
      have HX := Lib.hid hx; clear hx
      go_wp2_with fail
      refine HP.out.mono ?_
      rintro e w2 ⟨rfl, v2, l2, hI2, hh2, hp2, hF2, hL2, _⟩
      have HR : Hid (PutRel pb base v l zs w (k + 1) w2) := PutRel.step (by rw [HZL.out]; exact hlt) hp hF HL1.out ⟨hI2, hh2⟩ (by rw [HX.out]; exact hp2) hF2 hL2
      clear hI2 hh2 hp2 hF2 hL2
      go_wp2
      go_roundw
      case rel => exact ⟨k + 1, by omega, by go_num, HR.out⟩
      case measure => simp [intOf]; omega
    · have : k = n := by omega
      subst this
      go_wp2
      go_end0
      exact ⟨rfl, v1, l1, hI, by rw [List.take_of_length_le (by rw [HZL.out]; omega)] at hp; exact hp, hF, HL1.out⟩
end Go.Proofs.YtmfidemkmmbioaaGreat
