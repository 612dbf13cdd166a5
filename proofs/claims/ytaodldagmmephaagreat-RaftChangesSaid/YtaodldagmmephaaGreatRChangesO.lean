/- RaftChanges: the law's walk, of its arguments opened. -/
import Derived.Test.YtaodldagmmephaaGreatB7
import Derived.Test.YtaodldagmmephaaGreatD3
namespace Go.Proofs.YtaodldagmmephaaGreat
open Go.ChangeShapes Go.WideShapes Go.ChangeAt Go.RowKit Go.Deep
namespace RF
def icl2 (x : Int) : List Value := [.int .i64 x]
section
variable {H : Type} {enc : TypeId × Value → H} {w : World}
set_option maxRecDepth 100000 in
theorem elem_int2 : ∀ n cs' y, DataW.trod enc Tryz.prog w 0 (fun _ => true) true n 3 cs' = some y → ∃ x : Int, cs' = icl2 x ∧ okI x := by
  intro n cs' y h
  obtain ⟨x, rfl, _, hw⟩ := DataW.trod_int Tryz.underlying3 h
  exact ⟨x, rfl, bounds_i64 hw⟩
theorem rdi_of_g2 {W : World} {B n : Nat} {p : Option Addr} {zs : List Int} (h : RdG icl2 W B p n zs) : RdI W B p n zs :=
  ⟨h.1, fun hn => by
    obtain ⟨b, o, e, hb, hc⟩ := h.2 hn
    refine ⟨b, o, e, hb, fun k hk => ?_⟩
    have h1 := rowOf_at icl2 (size := 1) (fun _ => rfl) zs k 0 (by rw [h.1]; exact hk) (by omega)
    rw [show k * 1 + 0 = k by omega] at h1
    exact hc k _ h1⟩
set_option maxRecDepth 100000 in
theorem elem_li : ∀ n cs' y, DataW.trod enc Tryz.prog w 0 (fun _ => true) true n 32 cs' = some y → ∃ z : LI, cs' = licells z ∧ LIok w z := by
  intro n cs' y h
  have hc : ∃ p l c, cs' = [.slice p l c] := by
    rcases open_slice Tryz.underlying32 h with ⟨hcs, _⟩ | ⟨a, l, c, m, n, D, Pl, hcs, _⟩
    · exact ⟨_, _, _, hcs⟩
    · exact ⟨_, _, _, hcs⟩
  obtain ⟨p, l, c, rfl⟩ := hc
  obtain ⟨p', l', c', e, hl, hc, _⟩ := sl_of Tryz.underlying32 h
  injection e with _ e2 e3
  subst e2 e3
  obtain ⟨xs, h1, h2⟩ := open_rows icl2 (fun _ => rfl) (size := 1) (by omega) okI Tryz.underlying32 size_int elem_int2 h
  exact ⟨⟨p, l, c, xs⟩, rfl, rdi_of_g2 h1, h2, le_max (Nat.le_trans hl hc)⟩
set_option maxRecDepth 100000 in
theorem open_lints {fuel : Nat} {p : Option Addr} {len cap : Nat} {x : DataW H × List MemPlace}
    (h : DataW.trod enc Tryz.prog w 0 (fun _ => true) true fuel 56 [.slice p len cap] = some x) : ∃ zs : List LI, RdG licells w w.heap.size p len zs ∧ ∀ z ∈ zs, LIok w z :=
  open_rows licells licells_len (size := 1) (by omega) (fun z => LIok w z) Tryz.underlying56 size_lint elem_li h
end
theorem changes_said (n : Int) (p : Option Addr) (n0 c0 : Nat) (zs : List LI) (w : World) (h : RdG licells w w.heap.size p n0 zs ∧ ∀ z ∈ zs, LIok w z) : Calls Tryz.prog 6 #[.int .i64 n, .slice p n0 c0] w fun e w' => e = .returned (.bool true) ∧ Below w.heap.size w w' :=
  changes_walk n p n0 c0 zs w h.1 h.2
end RF
end Go.Proofs.YtaodldagmmephaaGreat
