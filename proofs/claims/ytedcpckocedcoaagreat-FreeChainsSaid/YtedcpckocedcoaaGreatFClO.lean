/- arboretumlaw6.FreeChains returns true, whatever its arguments. -/
import Derived.Test.YtedcpckocedcoaaGreatFCl
import Derived.Test.YtedcpckocedcoaaGreatOpen
namespace Go.Proofs.YtedcpckocedcoaaGreat
open Go.ChangeShapes Go.WideShapes Go.ChangeAt Go.RowKit Go.Deep

theorem int_le {n : Int} (h : (Lit.int .i64 n).wf = true) : n ≤ 9223372036854775807 := by
  have h2 := of_decide_eq_true (Bool.and_eq_true_iff.1 h).2
  have e : IntKind.max .i64 = 9223372036854775807 := by decide
  rw [e] at h2
  exact h2
set_option maxRecDepth 100000 in
theorem elem_int {H : Type} {enc : TypeId × Value → H} {w : World} : ∀ n cs' y, DataW.trod enc Tryz.prog w 0 (fun _ => true) true n 3 cs' = some y → ∃ x : Int, cs' = ncells x ∧ x ≤ 9223372036854775807 := by
  intro n cs' y h
  obtain ⟨x, c, _, hw⟩ := DataW.trod_int Tryz.underlying3 h
  exact ⟨x, c, int_le hw⟩
set_option maxRecDepth 100000 in
theorem elem_str {H : Type} {enc : TypeId × Value → H} {w : World} : ∀ n cs' y, DataW.trod enc Tryz.prog w 0 (fun _ => true) true n 9 cs' = some y → ∃ x : ByteArray, cs' = bcells x ∧ x.size ≤ maxLen := by
  intro n cs' y h
  obtain ⟨x, c, _, hw⟩ := DataW.trod_string Tryz.underlying9 h
  exact ⟨x, c, hw⟩
theorem rdI_of {w : World} {B n : Nat} {p : Option Addr} {zs : List Int} (h : RdG ncells w B p n zs) : RdI w B p n zs := by
  refine ⟨h.1, fun hn => ?_⟩
  obtain ⟨b, o, e, hb, hc⟩ := h.2 hn
  refine ⟨b, o, e, hb, fun k hk => hc k _ ?_⟩
  have := rowOf_at ncells ncells_length zs k 0 (by rw [h.1]; exact hk) (by omega)
  rw [Nat.mul_one, Nat.add_zero] at this
  exact this.trans rfl
theorem rdT_of {w : World} {B n : Nat} {p : Option Addr} {zs : List ByteArray} (h : RdG bcells w B p n zs) : RdT w B p n zs := by
  refine ⟨h.1, fun hn => ?_⟩
  obtain ⟨b, o, e, hb, hc⟩ := h.2 hn
  refine ⟨b, o, e, hb, fun k hk => hc k _ ?_⟩
  have := rowOf_at bcells bcells_length zs k 0 (by rw [h.1]; exact hk) (by omega)
  rw [Nat.mul_one, Nat.add_zero] at this
  exact this.trans rfl
theorem nil_cap {H : Type} {enc : TypeId × Value → H} {P : Program} {w : World} {fuel : Nat} {t e : TypeId} {p : Option Addr} {len cap : Nat} {x : DataW H × List MemPlace} (ht : P.underlying t = some (.slice e))
    (h : DataW.trod enc P w 0 (fun _ => true) true fuel t [.slice p len cap] = some x) : p = none → cap = 0 := by
  rcases open_slice ht h with ⟨hcs, _⟩ | ⟨a, len', cap', m', n', D, Pl, hcs, _⟩
  · injection hcs with hcs _
    injection hcs with _ _ hcs
    exact fun _ => hcs
  · injection hcs with hcs _
    injection hcs with hcs _ _
    intro e
    rw [e] at hcs
    cases hcs
def chI (w : World) (p : Option Addr) (len cap : Nat) (zs : List Int) : Prop := RdI w w.heap.size p len zs ∧ (p = none → cap = 0) ∧ ∀ i, i < len → HL.el zs i ≤ 9223372036854775807
def chT (w : World) (p : Option Addr) (len cap : Nat) (zs : List ByteArray) : Prop := RdT w w.heap.size p len zs ∧ (p = none → cap = 0) ∧ ∀ i, i < len → (HL.el zs i).size ≤ 9223372036854775807
theorem el_in {α : Type} [Inhabited α] {zs : List α} {i : Nat} (h : i < zs.length) : HL.el zs i ∈ zs := by
  unfold HL.el
  rw [List.getD_eq_getElem?_getD, List.getElem?_eq_getElem h]
  exact List.getElem_mem _
set_option maxRecDepth 100000 in
theorem open_chI {H : Type} {enc : TypeId × Value → H} {w : World} {fuel : Nat} {p : Option Addr} {len cap : Nat} {x : DataW H × List MemPlace}
    (h : DataW.trod enc Tryz.prog w 0 (fun _ => true) true fuel 22 [.slice p len cap] = some x) : ∃ zs : List Int, chI w p len cap zs := by
  obtain ⟨zs, hr, hg⟩ := open_rows ncells ncells_length (by omega) (fun x : Int => x ≤ 9223372036854775807) Tryz.underlying22 (by kernel_rfl) elem_int h
  exact ⟨zs, rdI_of hr, nil_cap Tryz.underlying22 h, fun i hi => hg _ (el_in (by rw [hr.1]; exact hi))⟩
set_option maxRecDepth 100000 in
theorem open_chT {H : Type} {enc : TypeId × Value → H} {w : World} {fuel : Nat} {p : Option Addr} {len cap : Nat} {x : DataW H × List MemPlace}
    (h : DataW.trod enc Tryz.prog w 0 (fun _ => true) true fuel 68 [.slice p len cap] = some x) : ∃ zs : List ByteArray, chT w p len cap zs := by
  obtain ⟨zs, hr, hg⟩ := open_rows bcells bcells_length (by omega) (fun x : ByteArray => x.size ≤ maxLen) Tryz.underlying68 (by kernel_rfl) elem_str h
  exact ⟨zs, rdT_of hr, nil_cap Tryz.underlying68 h, fun i hi => by
    have h1 := hg _ (el_in (by rw [hr.1]; exact hi))
    unfold maxLen at h1
    omega⟩

theorem freeChains_walk (p : Option Addr) (n c : Nat) (zs : List Int) (q : Option Addr) (m d : Nat) (bs : List ByteArray) (w : World) (h : chI w p n c zs) (h2 : chT w q m d bs) :
    Calls Tryz.prog 4 #[.slice p n c, .slice q m d] w fun e w' => e = .returned (.bool true) ∧ Below w.heap.size w w' :=
  fchains_go p q n c m d zs bs w h.1 h.2.1 h.2.2 h2.1 h2.2.1 h2.2.2
end Go.Proofs.YtedcpckocedcoaaGreat
