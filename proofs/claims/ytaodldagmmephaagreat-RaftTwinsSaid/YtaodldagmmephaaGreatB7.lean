/- Merged texts: Open Sml SmlM Light YOpen. -/
import Derived.Test.YtaodldagmmephaaGreatA1
import Derived.ProofKit
import Derived.OpenShut
import Derived.ShutString
import Derived.ChangeOld
import Derived.Deep.Slices
import Derived.Deep.Fields
import Derived.Test.YtaodldagmmephaaGreatA3
import Derived.Test.YtaodldagmmephaaGreatB2
/- Arguments opened: a slice of things of several cells each reads as a list. -/
namespace Go.Proofs.YtaodldagmmephaaGreat
open Go.ChangeShapes Go.WideShapes Go.ChangeAt Go.RowKit Go.Deep

section
variable {H : Type} {enc : TypeId × Value → H} {P : Program} {w : World}

/-- A slice whose elements each read by f. -/
theorem open_rows {α : Type} [Inhabited α] (f : α → List Value) {size : Nat} (hf : ∀ x, (f x).length = size) (hs : 0 < size) (good : α → Prop) {t e : TypeId} (ht : P.underlying t = some (.slice e)) (hC : P.cellsOf e = size)
    (hel : ∀ n cs' y, DataW.trod enc P w 0 (fun _ => true) true n e cs' = some y → ∃ x, cs' = f x ∧ good x) {fuel : Nat} {p : Option Addr} {len cap : Nat} {x : DataW H × List MemPlace}
    (h : DataW.trod enc P w 0 (fun _ => true) true fuel t [.slice p len cap] = some x) : ∃ zs, RdG f w w.heap.size p len zs ∧ ∀ z ∈ zs, good z := by
  rcases open_slice ht h with ⟨hcs, _⟩ | ⟨a, len', cap', m, n, D, Pl, hcs, _, hl, _, hm, _, hi⟩
  · injection hcs with hcs _
    injection hcs with h1 h2 h3
    subst h1 h2 h3
    exact ⟨[], RdG.nil, by simp⟩
  · injection hcs with hcs _
    injection hcs with h1 h2 h3
    subst h1 h2 h3
    simp only [if_true] at hm
    have hx : ∀ i, ∃ x, i < len → (w.cells? 0 (a.add (i * size)) size = some (f x) ∧ good x) := by
      intro i
      by_cases hlt : i < len
      · obtain ⟨cs', hc, ht'⟩ := hi i (by omega)
        obtain ⟨x, rfl, hg⟩ := hel _ _ _ ht'
        rw [hC] at hc
        exact ⟨x, fun _ => ⟨hc, hg⟩⟩
      · exact ⟨default, fun h => absurd h hlt⟩
    let X : Nat → α := fun i => Classical.choose (hx i)
    have hX : ∀ i, i < len → (w.cells? 0 (a.add (i * size)) size = some (f (X i)) ∧ good (X i)) := fun i => Classical.choose_spec (hx i)
    refine ⟨(List.range len).map X, ⟨by simp, fun hn => ?_⟩, ?_⟩
    · obtain ⟨b, o, sp⟩ := a
      obtain ⟨_, hl0, hc0⟩ := World.cells?_some (hX 0 hn).1
      have h0 := hc0 0 hs
      have hsome : ∃ u, (f (X 0))[0]? = some u := ⟨_, List.getElem?_eq_getElem (by omega)⟩
      obtain ⟨u0, hu0⟩ := hsome
      rw [hu0] at h0
      have hsp : sp = none := by simpa [Addr.add] using World.cell?_spot h0
      subst hsp
      have hb : b < w.heap.size := by have := cell_lt h0; simpa [Addr.add] using this
      refine ⟨b, o, rfl, hb, fun j u hu => ?_⟩
      have hj : j < len * size := by
        have := (List.getElem?_eq_some_iff.1 hu).1
        rw [rowOf_length f hf] at this
        simpa using this
      have hk : j / size < len := Nat.div_lt_of_lt_mul (by rw [Nat.mul_comm]; exact hj)
      have hr : j % size < size := Nat.mod_lt _ hs
      have hjj : j = j / size * size + j % size := by rw [Nat.mul_comm]; exact (Nat.div_add_mod j size).symm
      have e1 := rowOf_at f hf ((List.range len).map X) (j / size) (j % size) (by simpa using hk) hr
      rw [← hjj, hu] at e1
      have e2 : ((List.range len).map X).getD (j / size) default = X (j / size) := by
        rw [List.getD_eq_getElem?_getD, List.getElem?_map, List.getElem?_range hk]
        rfl
      rw [e2] at e1
      obtain ⟨_, _, hcc⟩ := World.cells?_some (hX _ hk).1
      have e3 := hcc (j % size) hr
      rw [add_at, add_at, ← e1] at e3
      rw [hjj, ← Nat.add_assoc]
      exact e3
    · intro z hz
      obtain ⟨i, hi', rfl⟩ := List.mem_map.1 hz
      exact (hX i (List.mem_range.1 hi')).2

/-- The cells of a struct of one-cell fields, each with its reading. -/
theorem open_fields {fs : Array Field} {e : TypeId} (he : P.underlying e = some (.struct fs)) (hone : oneCellFields P fs = true) {n : Nat} {cs : List Value} {y : DataW H × List MemPlace}
    (h : DataW.trod enc P w 0 (fun _ => true) true n e cs = some y) (hlen : cs.length = fs.size) :
    ∃ m, ∀ (j : Nat) (fd : Field), fs[j]? = some fd → ∃ v z, cs[j]? = some v ∧ DataW.trod enc P w 0 (fun _ => true) true m fd.type [v] = some z := by
  obtain ⟨ys, n', _, _, _, hyl, hf⟩ := DataW.trod_struct he h
  refine ⟨n', fun j fd hj => ?_⟩
  obtain ⟨ho, hk⟩ := hone_of hone j fd hj
  have hjl : j < fs.size := (Array.getElem?_eq_some_iff.1 hj).1
  have h1 := hf j fd hj
  rw [ho, hk] at h1
  have hd : (cs.drop j).take 1 = [cs[j]'(by omega)] := by
    rw [List.drop_eq_getElem_cons (by omega)]
    rfl
  rw [hd] at h1
  have hys : ys[j]? = some (ys[j]'(by omega)) := List.getElem?_eq_getElem (by omega)
  exact ⟨_, _, List.getElem?_eq_getElem (by omega), h1.trans hys⟩
end

end Go.Proofs.YtaodldagmmephaaGreat

/- arboretumbook.Room (of one size, of two), arboretumlaw16.Small: are entries few and short. -/
namespace Go.Proofs.YtaodldagmmephaaGreat
open Go.RowKit
def roomI (r x : Int) : Int := if x ≤ r then r - x else -1
theorem roomI_le {r x : Int} (hr : 0 ≤ r) (hx : 0 ≤ x) : -1 ≤ roomI r x ∧ roomI r x ≤ r := by
  unfold roomI
  split <;> omega
set_option maxHeartbeats 2000000 in
set_option maxRecDepth 100000 in
theorem room_one (r x : Int) (g : Nat) (w : World) (hr : 0 ≤ r) (hr2 : r ≤ 60000) (hx : 0 ≤ x) (hx2 : x ≤ 9223372036854775807) (hc : w.cell? ⟨g, 0, none⟩ = some (.int .i64 x)) :
    Calls Tryz.prog 72 #[.int .i64 r, .slice (some ⟨g, 0, none⟩) 1 1] w fun e w' => e = .returned (.int .i64 (roomI r x)) ∧ w' = w := by
  have HR := Lib.hid hr
  have HC := Lib.hid hc
  unfold roomI
  by_cases h : x ≤ r
  · rw [if_pos h]
    have n1 : ¬ r < 0 := by omega
    have n2 : ¬ r < x := by omega
    have HW : Hid (IntKind.i64.wrap (r - x) = r - x) := Lib.hid (by rw [IntKind.wrap_i64]; omega)
    clear hr
    go_enter Tryz.func72, Tryz.ntmps72
    go_wp2
    go_loop [0, 5] (fun rv iv => (rv = .int .i64 r ∧ iv = .int .i64 0) ∨ (rv = .int .i64 (r - x) ∧ iv = .int .i64 1)) (fun _ iv => (1 - intOf iv).toNat)
    case atStart => exact .inl ⟨rfl, rfl⟩
    case round =>
      rcases hrel with ⟨rfl, rfl⟩ | ⟨rfl, rfl⟩
      · have hw := HW.out
        go_wp2
        go_round
        case rel => exact .inr ⟨rfl, by simp⟩
        case measure => simp [intOf]
      · go_wp2
        go_ret
        exact ⟨rfl, rfl⟩
  · rw [if_neg h]
    have n1 : ¬ r < 0 := by omega
    have n2 : r < x := by omega
    clear hr
    go_enter Tryz.func72, Tryz.ntmps72
    go_wp2
    go_loop [0, 5] (fun rv iv => (rv = .int .i64 r ∧ iv = .int .i64 0)) (fun _ iv => (1 - intOf iv).toNat)
    case atStart => exact ⟨rfl, rfl⟩
    case round =>
      obtain ⟨rfl, rfl⟩ := hrel
      go_wp2
      go_ret
      exact ⟨rfl, rfl⟩
set_option maxHeartbeats 2000000 in
set_option maxRecDepth 100000 in
/-- Of two sizes: some number that is no greater. -/
theorem room_two (r x y : Int) (g : Nat) (w : World) (hr : 0 ≤ r) (hr2 : r ≤ 60000) (hx : 0 ≤ x) (hx2 : x ≤ 9223372036854775807) (hy : 0 ≤ y) (hy2 : y ≤ 9223372036854775807) (hc : w.cell? ⟨g, 0, none⟩ = some (.int .i64 x)) (hd : w.cell? ⟨g, 1, none⟩ = some (.int .i64 y)) :
    Calls Tryz.prog 72 #[.int .i64 r, .slice (some ⟨g, 0, none⟩) 2 2] w fun e w' => (∃ z : Int, e = .returned (.int .i64 z) ∧ -1 ≤ z ∧ z ≤ r) ∧ w' = w := by
  by_cases h : x ≤ r
  · by_cases h2 : y ≤ r - x
    · have n1 : ¬ r < 0 := by omega
      have n2 : ¬ r < x := by omega
      have n3 : ¬ r - x < 0 := by omega
      have n4 : ¬ r - x < y := by omega
      have HW : Hid (IntKind.i64.wrap (r - x) = r - x) := Lib.hid (by rw [IntKind.wrap_i64]; omega)
      have HW2 : Hid (IntKind.i64.wrap (r - x - y) = r - x - y) := Lib.hid (by rw [IntKind.wrap_i64]; omega)
      have HF : Hid (-1 ≤ r - x - y ∧ r - x - y ≤ r) := Lib.hid (by omega)
      clear hr
      go_enter Tryz.func72, Tryz.ntmps72
      go_wp2
      go_loop [0, 5] (fun rv iv => (rv = .int .i64 r ∧ iv = .int .i64 0) ∨ (rv = .int .i64 (r - x) ∧ iv = .int .i64 1) ∨ (rv = .int .i64 (r - x - y) ∧ iv = .int .i64 2)) (fun _ iv => (2 - intOf iv).toNat)
      case atStart => exact .inl ⟨rfl, rfl⟩
      case round =>
        rcases hrel with ⟨rfl, rfl⟩ | ⟨rfl, rfl⟩ | ⟨rfl, rfl⟩
        · have hw := HW.out
          go_wp2
          go_round
          case rel => exact .inr (.inl ⟨rfl, by simp⟩)
          case measure => simp [intOf]
        · have hw := HW2.out
          go_wp2
          go_round
          case rel => exact .inr (.inr ⟨rfl, by simp⟩)
          case measure => simp [intOf]
        · go_wp2
          go_ret
          exact ⟨⟨_, rfl, HF.out⟩, rfl⟩
    · have n1 : ¬ r < 0 := by omega
      have n2 : ¬ r < x := by omega
      have n3 : ¬ r - x < 0 := by omega
      have n4 : r - x < y := by omega
      have HW : Hid (IntKind.i64.wrap (r - x) = r - x) := Lib.hid (by rw [IntKind.wrap_i64]; omega)
      have HF : Hid (-1 ≤ (-1 : Int) ∧ (-1 : Int) ≤ r) := Lib.hid (by omega)
      clear hr
      go_enter Tryz.func72, Tryz.ntmps72
      go_wp2
      go_loop [0, 5] (fun rv iv => (rv = .int .i64 r ∧ iv = .int .i64 0) ∨ (rv = .int .i64 (r - x) ∧ iv = .int .i64 1)) (fun _ iv => (2 - intOf iv).toNat)
      case atStart => exact .inl ⟨rfl, rfl⟩
      case round =>
        rcases hrel with ⟨rfl, rfl⟩ | ⟨rfl, rfl⟩
        · have hw := HW.out
          go_wp2
          go_round
          case rel => exact .inr ⟨rfl, by simp⟩
          case measure => simp [intOf]
        · go_wp2
          go_ret
          exact ⟨⟨_, rfl, HF.out⟩, rfl⟩
  · have n1 : ¬ r < 0 := by omega
    have n2 : r < x := by omega
    have HF : Hid (-1 ≤ (-1 : Int) ∧ (-1 : Int) ≤ r) := Lib.hid (by omega)
    clear hr
    go_enter Tryz.func72, Tryz.ntmps72
    go_wp2
    go_loop [0, 5] (fun rv iv => (rv = .int .i64 r ∧ iv = .int .i64 0)) (fun _ iv => (1 - intOf iv).toNat)
    case atStart => exact ⟨rfl, rfl⟩
    case round =>
      obtain ⟨rfl, rfl⟩ := hrel
      go_wp2
      go_ret
      exact ⟨⟨_, rfl, HF.out⟩, rfl⟩
/-- What Small tells: if yes, all are short. -/
def SmallR (l : List En) (e : Ending) : Prop := ∃ β : Bool, e = .returned (.bool β) ∧ (β = true → l.length ≤ 420 ∧ ∀ i, i < l.length → (HL.el l i).da.size ≤ 12000)
set_option maxHeartbeats 2000000 in
set_option maxRecDepth 100000 in
theorem small_ens (p : Option Addr) (n c : Nat) (l : List En) (w : World) (h : RdG ecells w w.heap.size p n l) (hs : ∀ i, i < n → (HL.el l i).da.size ≤ 9223372036854775807) (hn : n ≤ 40) :
    Calls Tryz.prog 71 #[.slice p n c] w fun e w' => SmallR l e ∧ Below w.heap.size w w' := by
  have HZ := Lib.hid h.1
  have HE := Lib.hid (fun (k : Nat) (hk : k < n) (wr : World) (hb : Below w.heap.size w wr) => (h.below hb).en k hk)
  have HS := Lib.hid hs
  clear h hs
  go_enter Tryz.func71, Tryz.ntmps71
  go_wp2
  go_loopw [3, 4] (fun rv iv wr => ∃ (i : Nat) (r : Int), i ≤ n ∧ iv = .int .i64 i ∧ rv = .int .i64 r ∧ r ≤ 12000 ∧ Hid (0 ≤ r → ∀ j, j < i → (HL.el l j).da.size ≤ 12000) ∧ Hid (Below w.heap.size w wr)) (fun _ iv _ => n - (intOf iv).toNat)
  case atStart => exact ⟨0, 12000, Nat.zero_le _, rfl, rfl, by omega, Lib.hid (fun _ j hj => absurd hj (Nat.not_lt_zero j)), Lib.hid (Below.refl _ _)⟩
  case round =>
    obtain ⟨i, r, hi, rfl, rfl, hr12, HA, HB⟩ := hrel
    have hsz := HB.out.size
    have h600 : (i : Int) < 600 := by omega
    have d6 : decide ((i : Int) < 600) = true := decide_eq_true h600
    have h420 : (n : Int) ≤ 420 := by omega
    have d42 : decide ((n : Int) ≤ 420) = true := decide_eq_true h420
    by_cases hlt : i < n
    · have hltI : (i : Int) < (n : Int) := by omega
      have d1 : decide ((i : Int) < (n : Int)) = true := decide_eq_true hltI
      by_cases hr : 0 ≤ r
      · have d2 : decide ((0 : Int) ≤ r) = true := decide_eq_true hr
        obtain ⟨g, o, hpg, hgl, e0, e1, e2, e3⟩ := HE.out i hlt wr HB.out
        subst hpg
        have hsx := HS.out i hlt
        have HNX : Hid (0 ≤ roomI r ((HL.el l i).da.size : Int) → ∀ j, j < i + 1 → (HL.el l j).da.size ≤ 12000) := Lib.hid (fun h0 j hj => by
          rcases Nat.lt_or_ge j i with h1 | h1
          · exact HA.out hr j h1
          · obtain rfl : j = i := by omega
            unfold roomI at h0
            split at h0 <;> omega)
        have hle := roomI_le (x := ((HL.el l i).da.size : Int)) hr (by omega)
        have HC : Hid (∀ g (W : World), W.cell? ⟨g, 0, none⟩ = some (.int .i64 ((HL.el l i).da.size : Int)) → Calls Tryz.prog 72 #[.int .i64 r, .slice (some ⟨g, 0, none⟩) 1 1] W fun e w' => e = .returned (.int .i64 (roomI r ((HL.el l i).da.size : Int))) ∧ w' = W) := Lib.hid (fun g W h => room_one r _ g W hr (by omega) (by omega) (by omega) h)
        obtain ⟨y, hy⟩ : ∃ y, y = (HL.el l i).da := ⟨_, rfl⟩
        rw [← hy] at e3 hsx HNX hle HC
        generalize roomI r (y.size : Int) = r2 at *
        clear hy e0 e1 e2
        go_wp2_with fail
        with_reducible refine (HC.out _ _ (by go_simp)).mono ?_
        rintro e w7 ⟨rfl, hw7⟩
        rw [hw7]
        clear hw7 w7
        have HB2 : Hid (Below w.heap.size w (wr.alloc (.cells #[.int .i64 (y.size : Int)] 3))) := Lib.hid (HB.out.alloc hsz _)
        clear e3 HC
        go_wp2
        go_roundw
        case rel => exact ⟨i + 1, r2, by omega, by go_num, rfl, by omega, HNX, HB2⟩
        case measure => simp [intOf]; omega
      · have d2 : decide ((0 : Int) ≤ r) = false := decide_eq_false hr
        have hr3 : r < 0 := by omega
        go_wp2
        go_ret
        exact ⟨⟨_, rfl, fun h => by cases h⟩, HB.out⟩
    · obtain rfl : i = n := by omega
      have hltI : ¬ (i : Int) < (i : Int) := by omega
      have d1 : decide ((i : Int) < (i : Int)) = false := decide_eq_false hltI
      by_cases hr : 0 ≤ r
      · have d2 : decide ((0 : Int) ≤ r) = true := decide_eq_true hr
        have HF : Hid (l.length ≤ 420 ∧ ∀ j, j < l.length → (HL.el l j).da.size ≤ 12000) := Lib.hid ⟨by rw [HZ.out]; omega, fun j hj => HA.out hr j (by rw [HZ.out] at hj; exact hj)⟩
        go_wp2
        go_ret
        exact ⟨⟨_, rfl, fun _ => HF.out⟩, HB.out⟩
      · have d2 : decide ((0 : Int) ≤ r) = false := decide_eq_false hr
        have hr3 : r < 0 := by omega
        go_wp2
        go_ret
        exact ⟨⟨_, rfl, fun h => by cases h⟩, HB.out⟩
end Go.Proofs.YtaodldagmmephaaGreat

/- arboretumlaw20.SmallMsg: is a message short enough. -/
namespace Go.Proofs.YtaodldagmmephaaGreat
open Go.RowKit
namespace RF
def pcells (y : ByteArray × ByteArray) : List Value := [.string y.1, .string y.2]
/-- How the parts of a message that comes lie. -/
structure MsgAt (m : Mg) (x : Mx) (w : World) : Prop where
  en : RdG ecells w w.heap.size x.pe m.en.length m.en
  sz : ∀ i, i < m.en.length → (HL.el m.en i).da.size ≤ 9223372036854775807
  ps : ∃ ps : List (ByteArray × ByteArray), RdG pcells w w.heap.size x.pp x.np ps ∧ ∀ i, i < x.np → (HL.el ps i).1.size ≤ 9223372036854775807 ∧ (HL.el ps i).2.size ≤ 9223372036854775807
theorem MsgAt.below {m : Mg} {x : Mx} {w w' : World} (h : MsgAt m x w) (hb : Below w.heap.size w w') : MsgAt m x w' := by
  obtain ⟨a, b, ps, c, d⟩ := h
  exact ⟨(a.below hb).more hb.size, b, ps, (c.below hb).more hb.size, d⟩
/-- What SmallMsg tells: if yes, the message is short. -/
def MsgR (m : Mg) (e : Ending) : Prop := ∃ β : Bool, e = .returned (.bool β) ∧ (β = true → m.en.length ≤ 40 ∧ ∀ y ∈ m.en, y.da.size ≤ 12000)
theorem pcells_at {w : World} {B n : Nat} {p : Option Addr} {l : List (ByteArray × ByteArray)} (h : RdG pcells w B p n l) (k : Nat) (hk : k < n) : ∃ b o, p = some ⟨b, o, none⟩ ∧ b < B ∧ w.cell? ⟨b, o + k * 2, none⟩ = some (.string (HL.el l k).1) ∧ w.cell? ⟨b, o + k * 2 + 1, none⟩ = some (.string (HL.el l k).2) := by
  obtain ⟨b, o, e, hb, hc⟩ := h.2 (by omega)
  have h0 := rowOf_at pcells (show ∀ x, (pcells x).length = 2 from fun _ => rfl) l k 0 (by rw [h.1]; exact hk) (by omega)
  have h1 := rowOf_at pcells (show ∀ x, (pcells x).length = 2 from fun _ => rfl) l k 1 (by rw [h.1]; exact hk) (by omega)
  exact ⟨b, o, e, hb, hc _ _ h0, hc _ _ h1⟩
set_option maxHeartbeats 2000000 in
set_option maxRecDepth 100000 in
theorem small_msg (m : Mg) (x : Mx) (w : World) (h : MsgAt m x w) :
    Calls Tryz.prog 25 #[mxval m x] w fun e w' => MsgR m e ∧ Below w.heap.size w w' := by
  have hb1 : Below w.heap.size w (w.alloc (.cells #[.int .i64 m.kd, .int .i64 m.fr, .int .i64 m.tq, .int .i64 m.tm, .int .i64 m.ix, .int .i64 m.lt, .int .i64 m.cm, .int .i64 m.rd, .bool m.ok, .bool x.dn, .slice x.pe m.en.length x.ce, .slice x.pm x.nm x.cm, .int .i64 x.of, .slice x.pp x.np x.cp] 48)) := (Below.refl _ w).alloc (Nat.le_refl _) _
  have X1 := CBox.fresh w [.int .i64 m.kd, .int .i64 m.fr, .int .i64 m.tq, .int .i64 m.tm, .int .i64 m.ix, .int .i64 m.lt, .int .i64 m.cm, .int .i64 m.rd, .bool m.ok, .bool x.dn, .slice x.pe m.en.length x.ce, .slice x.pm x.nm x.cm, .int .i64 x.of, .slice x.pp x.np x.cp] 48
  have HM := Lib.hid (h.below hb1)
  have HB1 := Lib.hid hb1
  unfold mxval
  clear h hb1
  go_enter Tryz.func25, Tryz.ntmps25
  go_upto_region 1 with fail
  dsimp only [List.toArray] at X1
  generalize w.alloc (.cells #[.int .i64 m.kd, .int .i64 m.fr, .int .i64 m.tq, .int .i64 m.tm, .int .i64 m.ix, .int .i64 m.lt, .int .i64 m.cm, .int .i64 m.rd, .bool m.ok, .bool x.dn, .slice x.pe m.en.length x.ce, .slice x.pm x.nm x.cm, .int .i64 x.of, .slice x.pp x.np x.cp] 48) = W1 at *
  generalize w.heap.size = b1 at X1 ⊢
  have HX1 := Lib.hid X1
  clear X1
  have a10 := HX1.out.1 10 _ rfl
  have a11 := HX1.out.1 11 _ rfl
  have a13 := HX1.out.1 13 _ rfl
  go_cut [26] (fun s26 wx => ∃ β : Bool, s26 = .bool β ∧ Hid (Below W1.heap.size W1 wx) ∧ Hid (β = false → (m.en.length ≤ 40 ∧ ∀ y ∈ m.en, y.da.size ≤ 12000) ∧ x.np ≤ 60))
  case first =>
    by_cases h40 : m.en.length ≤ 40
    · have hI : (m.en.length : Int) ≤ 40 := by omega
      have d1 : decide ((40 : Int) < (m.en.length : Int)) = false := decide_eq_false (by omega)
      have HSM := Lib.hid (small_ens x.pe m.en.length x.ce m.en W1 HM.out.en HM.out.sz h40)
      go_wp2_with fail
      with_reducible refine (HSM.out).mono ?_
      rintro e w2 ⟨⟨sb, rfl, hsb⟩, hb2⟩
      have HB2 := Lib.hid hb2
      have HSB := Lib.hid hsb
      have a11 := (HX1.out.below hb2).1 11 _ rfl
      have a13 := (HX1.out.below hb2).1 13 _ rfl
      clear hb2 hsb HSM a10
      cases sb with
      | false =>
        have HN : Hid (true = false → (m.en.length ≤ 40 ∧ ∀ y ∈ m.en, y.da.size ≤ 12000) ∧ x.np ≤ 60) := Lib.hid (fun h => by cases h)
        go_wp2
        go_meet
        case rel => exact ⟨_, rfl, HB2, HN⟩
      | true =>
        by_cases hm : x.nm ≤ 40
        · have hmI : (x.nm : Int) ≤ 40 := by omega
          have d2 : decide ((40 : Int) < (x.nm : Int)) = false := decide_eq_false (by omega)
          by_cases hp : x.np ≤ 60
          · have hpI : (x.np : Int) ≤ 60 := by omega
            have d3 : decide ((60 : Int) < (x.np : Int)) = false := decide_eq_false (by omega)
            have HN : Hid ((m.en.length ≤ 40 ∧ ∀ y ∈ m.en, y.da.size ≤ 12000) ∧ x.np ≤ 60) := Lib.hid (⟨⟨h40, fun y hy => by
              obtain ⟨i, hi, e⟩ := List.getElem_of_mem hy
              have h1 := (HSB.out rfl).2 i hi
              have h2 : HL.el m.en i = y := by unfold HL.el; simp [List.getD, List.getElem?_eq_getElem hi, e]
              rw [h2] at h1
              exact h1⟩, hp⟩)
            go_wp2
            go_meet
            case rel => exact ⟨_, rfl, HB2, Lib.hid (fun _ => HN.out)⟩
          · have hpI : (60 : Int) < (x.np : Int) := by omega
            have d3 : decide ((60 : Int) < (x.np : Int)) = true := decide_eq_true hpI
            have HN : Hid (true = false → (m.en.length ≤ 40 ∧ ∀ y ∈ m.en, y.da.size ≤ 12000) ∧ x.np ≤ 60) := Lib.hid (fun h => by cases h)
            go_wp2
            go_meet
            case rel => exact ⟨_, rfl, HB2, HN⟩
        · have hmI : (40 : Int) < (x.nm : Int) := by omega
          have d2 : decide ((40 : Int) < (x.nm : Int)) = true := decide_eq_true hmI
          have HN : Hid (true = false → (m.en.length ≤ 40 ∧ ∀ y ∈ m.en, y.da.size ≤ 12000) ∧ x.np ≤ 60) := Lib.hid (fun h => by cases h)
          go_wp2
          go_meet
          case rel => exact ⟨_, rfl, HB2, HN⟩
    · have hI : (40 : Int) < (m.en.length : Int) := by omega
      have d1 : decide ((40 : Int) < (m.en.length : Int)) = true := decide_eq_true hI
      have HN : Hid (true = false → (m.en.length ≤ 40 ∧ ∀ y ∈ m.en, y.da.size ≤ 12000) ∧ x.np ≤ 60) := Lib.hid (fun h => by cases h)
      have HB2 : Hid (Below W1.heap.size W1 W1) := Lib.hid (Below.refl _ _)
      go_wp2
      go_meet
      case rel => exact ⟨_, rfl, HB2, HN⟩
  case rest =>
  obtain ⟨β, rfl, HBW, HBE⟩ := hcut
  generalize wc = W2 at *
  have HX2 := Lib.hid (HX1.out.below HBW.out)
  have HM2 := Lib.hid (HM.out.below HBW.out)
  have HB2 := Lib.hid (HB1.out.trans (HBW.out.mono HB1.out.size))
  clear a10 a11 a13 HX1 HM HB1 HBW
  cases β with
  | true =>
    go_wp2
    go_ret
    exact ⟨⟨_, rfl, fun h => by cases h⟩, HB2.out⟩
  | false =>
  have HOK := Lib.hid (HBE.out rfl).1
  have hnp := (HBE.out rfl).2
  clear HBE
  obtain ⟨ps, hps, hsz⟩ := HM2.out.ps
  have HPS := Lib.hid hps
  have HSZ := Lib.hid hsz
  clear hps hsz HM2
  go_wp2
  go_loopw [3, 4] (fun rv iv wr => ∃ (i : Nat) (r : Int), i ≤ x.np ∧ iv = .int .i64 i ∧ rv = .int .i64 r ∧ r ≤ 20000 ∧ Hid (Below W2.heap.size W2 wr)) (fun _ iv _ => x.np - (intOf iv).toNat)
  case atStart => exact ⟨0, 20000, Nat.zero_le _, rfl, rfl, by omega, Lib.hid (Below.refl _ _)⟩
  case round =>
    obtain ⟨i, r, hi, rfl, rfl, hr2, HB⟩ := hrel
    have a13 := (HX2.out.below HB.out).1 13 _ rfl
    have HX3 := Lib.hid (HX2.out.below HB.out)
    have HBR := Lib.hid (HB2.out.trans (HB.out.mono HB2.out.size))
    by_cases hlt : i < x.np
    · have hltI : (i : Int) < (x.np : Int) := by omega
      have d1 : decide ((i : Int) < (x.np : Int)) = true := decide_eq_true hltI
      by_cases hr : 0 ≤ r
      · have d2 : decide ((0 : Int) ≤ r) = true := decide_eq_true hr
        obtain ⟨g, o, hpg, hgl, e0, e1⟩ := pcells_at (HPS.out.below HB.out) i hlt
        have hs := HSZ.out i hlt
        generalize HL.el ps i = y at *
        obtain ⟨k1, k2⟩ := y
        dsimp only at e0 e1 hs
        have HC : Hid (∀ g (W : World), W.cell? ⟨g, 0, none⟩ = some (.int .i64 (k1.size : Int)) → W.cell? ⟨g, 1, none⟩ = some (.int .i64 (k2.size : Int)) → Calls Tryz.prog 72 #[.int .i64 r, .slice (some ⟨g, 0, none⟩) 2 2] W fun e w' => (∃ z : Int, e = .returned (.int .i64 z) ∧ -1 ≤ z ∧ z ≤ r) ∧ w' = W) := Lib.hid (fun g W h1 h2 => room_two r _ _ g W hr (by omega) (by omega) (by omega) (by omega) (by omega) h1 h2)
        rw [hpg] at a13
        have q13 : ∀ q : Later wr, q.1.cell? ⟨b1, 13, none⟩ = some (.slice (some ⟨g, o, none⟩) x.np x.cp) := fun q => (q.2.cell (p := ⟨b1, 13, none⟩) HX3.out.2.2).trans a13
        have p0 : ∀ q : Later wr, q.1.cell? ⟨g, o + i * 2, none⟩ = some (.string k1) := fun q => (q.2.cell (p := ⟨g, o + i * 2, none⟩) (cell_lt e0)).trans e0
        have p1 : ∀ q : Later wr, q.1.cell? ⟨g, o + i * 2 + 1, none⟩ = some (.string k2) := fun q => (q.2.cell (p := ⟨g, o + i * 2 + 1, none⟩) (cell_lt e1)).trans e1
        clear e0 e1 hs hpg
        go_wp2_with fail
        refine Mix.region_mix (n := 17) (m := 3) (fun V => ∃ q : Later wr, V = q.1) [0, 1, 2, 3, 4, 5, 6, 7, 8, 9, 10, 11, 12, 13, 14] (by kernel_rfl) rfl rfl (by kernel_rfl) (by kernel_rfl) ⟨⟨_, (Below.refl _ _).drew⟩, rfl⟩ ?_
        repeat (refine Mix.picks_step rfl ?_; go_big_quiet_step (fail))
        refine Mix.picks_nil ?_
        intro inv
        refine sink_one (i := 15) (by kernel_rfl) rfl (by omega) inv (fun K hK => ?_)
        have HKK := Lib.hid hK
        clear hK
        go_simp
        refine HKK.out _ _ ⟨⟨_, (Below.refl _ _).drew.alloc (Nat.le_refl _) _⟩, rfl⟩ ?_
        clear HKK inv
        intro hS inv
        (try simp only [Act.put]); (try simp only [List.setIfInBounds_toArray]); (try simp only [List.set_cons_succ]); (try simp only [List.set_cons_zero])
        refine sink_one (i := 16) (by kernel_rfl) rfl (by omega) inv (fun K hK => ?_)
        have HKK := Lib.hid hK
        clear hK
        go_simp
        with_reducible refine (HC.out _ _ (by go_simp) (by go_simp)).mono ?_
        rintro e w7 ⟨⟨z, rfl, hz1, hz2⟩, hw7⟩
        rw [hw7]
        clear hw7 w7
        refine HKK.out _ _ ⟨⟨_, (Below.refl _ _).drew.alloc (Nat.le_refl _) _⟩, rfl⟩ ?_
        clear HKK inv
        intro hS inv
        (try simp only [Act.put]); (try simp only [List.setIfInBounds_toArray]); (try simp only [List.set_cons_succ]); (try simp only [List.set_cons_zero])
        refine sink_last (by kernel_rfl) rfl (by kernel_rfl) (fun K hK => ?_)
        have HKK := Lib.hid hK
        clear hK
        go_simp
        refine HKK.out _ _ ⟨rfl, ?_⟩
        clear HKK inv hS
        go_wp2
        go_roundw
        case rel => exact ⟨i + 1, z, by omega, by go_num, rfl, by omega, Lib.hid (HB.out.alloc HB.out.size _).drew⟩
        case measure => simp [intOf]; omega
      · have d2 : decide ((0 : Int) ≤ r) = false := decide_eq_false hr
        have hr3 : r < 0 := by omega
        go_wp2
        go_ret
        exact ⟨⟨_, rfl, fun _ => HOK.out⟩, HBR.out⟩
    · obtain rfl : i = x.np := by omega
      have hltI : ¬ (x.np : Int) < (x.np : Int) := by omega
      have d1 : decide ((x.np : Int) < (x.np : Int)) = false := decide_eq_false hltI
      go_wp2
      go_ret
      exact ⟨⟨_, rfl, fun _ => HOK.out⟩, HBR.out⟩
end RF
end Go.Proofs.YtaodldagmmephaaGreat

/- arboretumlaw20.Light: are steps few and short. -/
namespace Go.Proofs.YtaodldagmmephaaGreat
open Go.RowKit
namespace RF
/-- A step of the laws: its cells. -/
structure OpL where
  kd : Int
  a : Int
  b : Int
  m : Mg
  x : Mx
  st : ByteArray
  lp : Option Addr
  ln : Nat
  lc : Nat
  six : Int
  stm : Int
  sp : Option Addr
  sn : Nat
  sc : Nat
instance : Inhabited OpL := ⟨⟨0, 0, 0, mg0, ⟨none, 0, false, none, 0, 0, 0, none, 0, 0⟩, ⟨#[]⟩, none, 0, 0, 0, 0, none, 0, 0⟩⟩
def mxl (m : Mg) (x : Mx) : List Value := [.int .i64 m.kd, .int .i64 m.fr, .int .i64 m.tq, .int .i64 m.tm, .int .i64 m.ix, .int .i64 m.lt, .int .i64 m.cm, .int .i64 m.rd, .bool m.ok, .bool x.dn, .slice x.pe m.en.length x.ce, .slice x.pm x.nm x.cm, .int .i64 x.of, .slice x.pp x.np x.cp]
def opcells (o : OpL) : List Value := [.int .i64 o.kd, .int .i64 o.a, .int .i64 o.b] ++ mxl o.m o.x ++ [.string o.st, .slice o.lp o.ln o.lc, .int .i64 o.six, .int .i64 o.stm, .slice o.sp o.sn o.sc]
theorem opcells_len (o : OpL) : (opcells o).length = 22 := rfl
/-- Steps, in memory. -/
def OpsAt (l : List OpL) (p : Option Addr) (w : World) : Prop := RdG opcells w w.heap.size p l.length l ∧ ∀ i, i < l.length → MsgAt (HL.el l i).m (HL.el l i).x w
theorem OpsAt.below {l : List OpL} {p : Option Addr} {w w' : World} (h : OpsAt l p w) (hb : Below w.heap.size w w') : OpsAt l p w' := ⟨(h.1.below hb).more hb.size, fun i hi => (h.2 i hi).below hb⟩
/-- What Light tells: if yes, they are few, and each message is short. -/
def LightR (l : List OpL) (e : Ending) : Prop := ∃ β : Bool, e = .returned (.bool β) ∧ (β = true → l.length ≤ 200 ∧ ∀ i, i < l.length → (HL.el l i).m.en.length ≤ 40 ∧ (∀ y ∈ (HL.el l i).m.en, y.da.size ≤ 12000) ∧ (HL.el l i).st.size ≤ 3000)
set_option maxHeartbeats 2000000 in
set_option maxRecDepth 100000 in
theorem light_ops (p : Option Addr) (c : Nat) (l : List OpL) (w : World) (h : OpsAt l p w) (hn : l.length ≤ 9223372036854775807) (hs : ∀ i, i < l.length → (HL.el l i).st.size ≤ 9223372036854775807 ∧ (HL.el l i).ln ≤ 9223372036854775807 ∧ (HL.el l i).sn ≤ 9223372036854775807) :
    Calls Tryz.prog 34 #[.slice p l.length c] w fun e w' => LightR l e ∧ Below w.heap.size w w' := by
  have HO := Lib.hid h
  have HS := Lib.hid hs
  have HSM := Lib.hid (fun (i : Nat) (hi : i < l.length) (W : World) (hW : Below w.heap.size w W) => small_msg (HL.el l i).m (HL.el l i).x W (((HO.out.below hW)).2 i hi))
  have HCE := Lib.hid (fun (i : Nat) (hi : i < l.length) => by
    obtain ⟨b, o, e, hb, hc⟩ := h.1.2 (by omega)
    exact (⟨b, o, e, hb, fun j u hj hu => hc (i * 22 + j) u (by have := rowOf_at opcells opcells_len l i j hi hj; rw [this]; exact hu)⟩ : ∃ b o, p = some ⟨b, o, none⟩ ∧ b < w.heap.size ∧ ∀ j u, j < 22 → (opcells (HL.el l i))[j]? = some u → w.cell? ⟨b, o + (i * 22 + j), none⟩ = some u))
  clear h hs
  go_enter Tryz.func34, Tryz.ntmps34
  go_wp2
  go_loopw [3] (fun iv wr => ∃ i : Nat, i ≤ l.length ∧ i ≤ 400 ∧ iv = .int .i64 i ∧ Hid (∀ k, k < i → (HL.el l k).m.en.length ≤ 40 ∧ (∀ y ∈ (HL.el l k).m.en, y.da.size ≤ 12000) ∧ (HL.el l k).st.size ≤ 3000) ∧ Hid (Below w.heap.size w wr)) (fun iv _ => 400 - (intOf iv).toNat)
  case atStart => exact ⟨0, Nat.zero_le _, Nat.zero_le _, rfl, Lib.hid (fun k hk => absurd hk (Nat.not_lt_zero k)), Lib.hid (Below.refl _ _)⟩
  case round =>
    obtain ⟨i, hi, hi4, rfl, HA, HB⟩ := hrel
    by_cases hgo : i < l.length ∧ i < 400
    · obtain ⟨hlt, hlt4⟩ := hgo
      have hltI : (i : Int) < (l.length : Int) := by omega
      have hlt4I : (i : Int) < 400 := by omega
      have d1 : decide ((i : Int) < (l.length : Int)) = true := decide_eq_true hltI
      have d4 : decide ((i : Int) < 400) = true := decide_eq_true hlt4I
      obtain ⟨g, o, hpg, hgl, hc⟩ := HCE.out i hlt
      have HS1 := Lib.hid (HS.out i hlt)
      have HM1 := Lib.hid (HSM.out i hlt wr HB.out)
      have HNX : Hid ((HL.el l i).m.en.length ≤ 40 ∧ (∀ y ∈ (HL.el l i).m.en, y.da.size ≤ 12000) ∧ (HL.el l i).st.size ≤ 3000 → ∀ k, k < i + 1 → (HL.el l k).m.en.length ≤ 40 ∧ (∀ y ∈ (HL.el l k).m.en, y.da.size ≤ 12000) ∧ (HL.el l k).st.size ≤ 3000) := Lib.hid (fun h9 k hk => by
        rcases Nat.lt_or_ge k i with h1 | h1
        · exact HA.out k h1
        · obtain rfl : k = i := by omega
          exact h9)
      subst hpg
      generalize HL.el l i = y at *
      have z0 : wr.cell? ⟨g, o + i * 22 + 3, none⟩ = some (.int .i64 y.m.kd) := (HB.out.cell (p := ⟨g, o + i * 22 + 3, none⟩) hgl).trans (hc 3 _ (by omega) rfl)
      have z1 : wr.cell? ⟨g, o + i * 22 + 3 + 1, none⟩ = some (.int .i64 y.m.fr) := (HB.out.cell (p := ⟨g, o + i * 22 + 3 + 1, none⟩) hgl).trans (hc 4 _ (by omega) rfl)
      have z2 : wr.cell? ⟨g, o + i * 22 + 3 + 2, none⟩ = some (.int .i64 y.m.tq) := (HB.out.cell (p := ⟨g, o + i * 22 + 3 + 2, none⟩) hgl).trans (hc 5 _ (by omega) rfl)
      have z3 : wr.cell? ⟨g, o + i * 22 + 3 + 3, none⟩ = some (.int .i64 y.m.tm) := (HB.out.cell (p := ⟨g, o + i * 22 + 3 + 3, none⟩) hgl).trans (hc 6 _ (by omega) rfl)
      have z4 : wr.cell? ⟨g, o + i * 22 + 3 + 4, none⟩ = some (.int .i64 y.m.ix) := (HB.out.cell (p := ⟨g, o + i * 22 + 3 + 4, none⟩) hgl).trans (hc 7 _ (by omega) rfl)
      have z5 : wr.cell? ⟨g, o + i * 22 + 3 + 5, none⟩ = some (.int .i64 y.m.lt) := (HB.out.cell (p := ⟨g, o + i * 22 + 3 + 5, none⟩) hgl).trans (hc 8 _ (by omega) rfl)
      have z6 : wr.cell? ⟨g, o + i * 22 + 3 + 6, none⟩ = some (.int .i64 y.m.cm) := (HB.out.cell (p := ⟨g, o + i * 22 + 3 + 6, none⟩) hgl).trans (hc 9 _ (by omega) rfl)
      have z7 : wr.cell? ⟨g, o + i * 22 + 3 + 7, none⟩ = some (.int .i64 y.m.rd) := (HB.out.cell (p := ⟨g, o + i * 22 + 3 + 7, none⟩) hgl).trans (hc 10 _ (by omega) rfl)
      have z8 : wr.cell? ⟨g, o + i * 22 + 3 + 8, none⟩ = some (.bool y.m.ok) := (HB.out.cell (p := ⟨g, o + i * 22 + 3 + 8, none⟩) hgl).trans (hc 11 _ (by omega) rfl)
      have z9 : wr.cell? ⟨g, o + i * 22 + 3 + 9, none⟩ = some (.bool y.x.dn) := (HB.out.cell (p := ⟨g, o + i * 22 + 3 + 9, none⟩) hgl).trans (hc 12 _ (by omega) rfl)
      have z10 : wr.cell? ⟨g, o + i * 22 + 3 + 10, none⟩ = some (.slice y.x.pe y.m.en.length y.x.ce) := (HB.out.cell (p := ⟨g, o + i * 22 + 3 + 10, none⟩) hgl).trans (hc 13 _ (by omega) rfl)
      have z11 : wr.cell? ⟨g, o + i * 22 + 3 + 11, none⟩ = some (.slice y.x.pm y.x.nm y.x.cm) := (HB.out.cell (p := ⟨g, o + i * 22 + 3 + 11, none⟩) hgl).trans (hc 14 _ (by omega) rfl)
      have z12 : wr.cell? ⟨g, o + i * 22 + 3 + 12, none⟩ = some (.int .i64 y.x.of) := (HB.out.cell (p := ⟨g, o + i * 22 + 3 + 12, none⟩) hgl).trans (hc 15 _ (by omega) rfl)
      have z13 : wr.cell? ⟨g, o + i * 22 + 3 + 13, none⟩ = some (.slice y.x.pp y.x.np y.x.cp) := (HB.out.cell (p := ⟨g, o + i * 22 + 3 + 13, none⟩) hgl).trans (hc 16 _ (by omega) rfl)
      have z17 : wr.cell? ⟨g, o + i * 22 + 17, none⟩ = some (.string y.st) := (HB.out.cell (p := ⟨g, o + i * 22 + 17, none⟩) hgl).trans (hc 17 _ (by omega) rfl)
      have z18 : wr.cell? ⟨g, o + i * 22 + 18, none⟩ = some (.slice y.lp y.ln y.lc) := (HB.out.cell (p := ⟨g, o + i * 22 + 18, none⟩) hgl).trans (hc 18 _ (by omega) rfl)
      have z21 : wr.cell? ⟨g, o + i * 22 + 19 + 2, none⟩ = some (.slice y.sp y.sn y.sc) := (HB.out.cell (p := ⟨g, o + i * 22 + 19 + 2, none⟩) hgl).trans (hc 21 _ (by omega) rfl)
      unfold mxval at HM1
      clear hc
      go_wp2_with fail
      with_reducible refine (HM1.out).mono ?_
      rintro e w2 ⟨⟨β, rfl, hβ⟩, hb2⟩
      have HB2 := Lib.hid (HB.out.trans (hb2.mono HB.out.size))
      have HBE := Lib.hid hβ
      have y17 : w2.cell? ⟨g, o + i * 22 + 17, none⟩ = some (.string y.st) := (hb2.cell (p := ⟨g, o + i * 22 + 17, none⟩) (cell_lt z17)).trans z17
      have y18 : w2.cell? ⟨g, o + i * 22 + 18, none⟩ = some (.slice y.lp y.ln y.lc) := (hb2.cell (p := ⟨g, o + i * 22 + 18, none⟩) (cell_lt z18)).trans z18
      have y21 : w2.cell? ⟨g, o + i * 22 + 19 + 2, none⟩ = some (.slice y.sp y.sn y.sc) := (hb2.cell (p := ⟨g, o + i * 22 + 19 + 2, none⟩) (cell_lt z21)).trans z21
      clear hβ hb2 HM1 z0 z1 z2 z3 z4 z5 z6 z7 z8 z9 z10 z11 z12 z13 z17 z18 z21
      cases β with
      | false =>
        go_wp2
        go_ret
        exact ⟨⟨_, rfl, fun h => by cases h⟩, HB2.out⟩
      | true =>
        by_cases h1 : y.st.size ≤ 3000
        · have h1I : (y.st.size : Int) ≤ 3000 := by omega
          have e1 : decide ((3000 : Int) < (y.st.size : Int)) = false := decide_eq_false (by omega)
          by_cases h2 : y.ln ≤ 40
          · have h2I : (y.ln : Int) ≤ 40 := by omega
            have e2 : decide ((40 : Int) < (y.ln : Int)) = false := decide_eq_false (by omega)
            by_cases h3 : y.sn ≤ 40
            · have h3I : (y.sn : Int) ≤ 40 := by omega
              have e3 : decide ((40 : Int) < (y.sn : Int)) = false := decide_eq_false (by omega)
              have HN := Lib.hid (HNX.out ⟨(HBE.out rfl).1, (HBE.out rfl).2, h1⟩)
              go_wp2
              go_roundw
              case rel => exact ⟨i + 1, by omega, by omega, by go_num, HN, HB2⟩
              case measure => simp [intOf]; omega
            · have h3I : (40 : Int) < (y.sn : Int) := by omega
              have e3 : decide ((40 : Int) < (y.sn : Int)) = true := decide_eq_true h3I
              go_wp2
              go_ret
              exact ⟨⟨_, rfl, fun h => by cases h⟩, HB2.out⟩
          · have h2I : (40 : Int) < (y.ln : Int) := by omega
            have e2 : decide ((40 : Int) < (y.ln : Int)) = true := decide_eq_true h2I
            go_wp2
            go_ret
            exact ⟨⟨_, rfl, fun h => by cases h⟩, HB2.out⟩
        · have h1I : (3000 : Int) < (y.st.size : Int) := by omega
          have e1 : decide ((3000 : Int) < (y.st.size : Int)) = true := decide_eq_true h1I
          go_wp2
          go_ret
          exact ⟨⟨_, rfl, fun h => by cases h⟩, HB2.out⟩
    · by_cases hlt : i < l.length
      · have hI : (i : Int) < (l.length : Int) := by omega
        obtain rfl : i = 400 := by omega
        have d1 : decide (((400 : Nat) : Int) < (l.length : Int)) = true := decide_eq_true hI
        have h2 : (200 : Int) < (l.length : Int) := by omega
        have d2 : decide ((l.length : Int) ≤ 200) = false := decide_eq_false (by omega)
        go_wp2
        go_ret
        exact ⟨⟨_, rfl, fun h => by simp at h⟩, HB.out⟩
      · obtain rfl : i = l.length := by omega
        have hI : ¬ (l.length : Int) < (l.length : Int) := by omega
        have d1 : decide ((l.length : Int) < (l.length : Int)) = false := decide_eq_false hI
        by_cases h2 : l.length ≤ 200
        · have h2I : (l.length : Int) ≤ 200 := by omega
          have d2 : decide ((l.length : Int) ≤ 200) = true := decide_eq_true h2I
          have HF := Lib.hid (And.intro h2 HA.out)
          go_wp2
          go_ret
          exact ⟨⟨_, rfl, fun _ => HF.out⟩, HB.out⟩
        · have h2I : (200 : Int) < (l.length : Int) := by omega
          have d2 : decide ((l.length : Int) ≤ 200) = false := decide_eq_false (by omega)
          go_wp2
          go_ret
          exact ⟨⟨_, rfl, fun h => by simp at h⟩, HB.out⟩
end RF
end Go.Proofs.YtaodldagmmephaaGreat

/- Chapter 20: arguments opened. -/
namespace Go.Proofs.YtaodldagmmephaaGreat
open Go.ChangeShapes Go.WideShapes Go.ChangeAt Go.RowKit Go.Deep
section
variable {H : Type} {enc : TypeId × Value → H} {w : World}
theorem struct_at {P : Program} {fs : Array Field} {t : TypeId} (ht : P.underlying t = some (.struct fs)) {n : Nat} {cs : List Value} {y : DataW H × List MemPlace}
    (h : DataW.trod enc P w 0 (fun _ => true) true n t cs = some y) :
    cs.length = P.cellsOf t ∧ ∃ m, ∀ (j : Nat) (fd : Field), fs[j]? = some fd → ∃ z, DataW.trod enc P w 0 (fun _ => true) true m fd.type ((cs.drop fd.offset).take (P.cellsOf fd.type)) = some z := by
  obtain ⟨ys, m, _, _, hl, hyl, hf⟩ := DataW.trod_struct ht h
  refine ⟨hl, m, fun j fd hj => ?_⟩
  have hjl : j < fs.size := (Array.getElem?_eq_some_iff.1 hj).1
  have h1 := hf j fd hj
  rw [show ys[j]? = some (ys[j]'(by omega)) from List.getElem?_eq_getElem (by omega)] at h1
  exact ⟨_, h1⟩
/-- A slice's value. -/
theorem sl_of {P : Program} {t e : TypeId} (ht : P.underlying t = some (.slice e)) {n : Nat} {v : Value} {y : DataW H × List MemPlace}
    (h : DataW.trod enc P w 0 (fun _ => true) true n t [v] = some y) : ∃ p l c, v = .slice p l c ∧ l ≤ c ∧ c ≤ maxLen ∧ (p = none → c = 0) := by
  rcases open_slice ht h with ⟨hcs, _⟩ | ⟨a, l, c, m, n, D, Pl, hcs, _, h1, h2, _⟩
  · injection hcs with hcs _
    exact ⟨none, 0, 0, hcs, Nat.le_refl _, Nat.zero_le _, fun _ => rfl⟩
  · injection hcs with hcs _
    exact ⟨some a, l, c, hcs, h1, h2, fun h => by cases h⟩

def i64ok (n : Int) : Prop := (Lit.int .i64 n).wf = true
namespace RF
set_option maxRecDepth 100000 in
theorem size_api_Entry : Tryz.prog.cellsOf 25 = 4 := by kernel_rfl
theorem len4_of {l : List Value} (h : l.length = 4) : ∃ a0 a1 a2 a3, l = [a0, a1, a2, a3] := by
  match l, h with
  | [a0, a1, a2, a3], _ => exact ⟨a0, a1, a2, a3, rfl⟩
set_option maxRecDepth 100000 in
theorem size_int : Tryz.prog.cellsOf 3 = 1 := by kernel_rfl
set_option maxRecDepth 100000 in
theorem size_string : Tryz.prog.cellsOf 9 = 1 := by kernel_rfl
def enok (e : En) : Prop := i64ok e.ix ∧ i64ok e.tm ∧ i64ok e.kd ∧ e.da.size ≤ maxLen
set_option maxRecDepth 100000 in
theorem elem_en : ∀ n cs' y, DataW.trod enc Tryz.prog w 0 (fun _ => true) true n 25 cs' = some y → ∃ e : En, cs' = ecells e ∧ enok e := by
  intro n cs' y h
  obtain ⟨hl, m, hf⟩ := struct_at Tryz.underlying25 h
  rw [size_api_Entry] at hl
  obtain ⟨a0, a1, a2, a3, rfl⟩ := len4_of hl
  obtain ⟨z0, f0⟩ := hf 0 _ rfl
  change DataW.trod enc Tryz.prog w 0 (fun _ => true) true m 3 (List.take (Tryz.prog.cellsOf 3) [a0, a1, a2, a3]) = some z0 at f0
  rw [size_int] at f0
  change DataW.trod enc Tryz.prog w 0 (fun _ => true) true m 3 [a0] = some z0 at f0
  obtain ⟨z1, f1⟩ := hf 1 _ rfl
  change DataW.trod enc Tryz.prog w 0 (fun _ => true) true m 3 (List.take (Tryz.prog.cellsOf 3) [a1, a2, a3]) = some z1 at f1
  rw [size_int] at f1
  change DataW.trod enc Tryz.prog w 0 (fun _ => true) true m 3 [a1] = some z1 at f1
  obtain ⟨z2, f2⟩ := hf 2 _ rfl
  change DataW.trod enc Tryz.prog w 0 (fun _ => true) true m 3 (List.take (Tryz.prog.cellsOf 3) [a2, a3]) = some z2 at f2
  rw [size_int] at f2
  change DataW.trod enc Tryz.prog w 0 (fun _ => true) true m 3 [a2] = some z2 at f2
  obtain ⟨z3, f3⟩ := hf 3 _ rfl
  change DataW.trod enc Tryz.prog w 0 (fun _ => true) true m 9 (List.take (Tryz.prog.cellsOf 9) [a3]) = some z3 at f3
  rw [size_string] at f3
  change DataW.trod enc Tryz.prog w 0 (fun _ => true) true m 9 [a3] = some z3 at f3
  obtain ⟨x0, c0, _, q0⟩ := DataW.trod_int Tryz.underlying3 f0
  injection c0 with c0 _
  subst c0
  obtain ⟨x1, c1, _, q1⟩ := DataW.trod_int Tryz.underlying3 f1
  injection c1 with c1 _
  subst c1
  obtain ⟨x2, c2, _, q2⟩ := DataW.trod_int Tryz.underlying3 f2
  injection c2 with c2 _
  subst c2
  obtain ⟨x3, c3, _, q3⟩ := DataW.trod_string Tryz.underlying9 f3
  injection c3 with c3 _
  subst c3
  exact ⟨⟨x0, x1, x2, x3⟩, rfl, q0, q1, q2, q3⟩
set_option maxRecDepth 100000 in
theorem size_api_Pair : Tryz.prog.cellsOf 115 = 2 := by kernel_rfl
theorem len2_of {l : List Value} (h : l.length = 2) : ∃ a0 a1, l = [a0, a1] := by
  match l, h with
  | [a0, a1], _ => exact ⟨a0, a1, rfl⟩
def pairok (e : ByteArray × ByteArray) : Prop := e.1.size ≤ maxLen ∧ e.2.size ≤ maxLen
set_option maxRecDepth 100000 in
theorem elem_pair : ∀ n cs' y, DataW.trod enc Tryz.prog w 0 (fun _ => true) true n 115 cs' = some y → ∃ e : ByteArray × ByteArray, cs' = pcells e ∧ pairok e := by
  intro n cs' y h
  obtain ⟨hl, m, hf⟩ := struct_at Tryz.underlying115 h
  rw [size_api_Pair] at hl
  obtain ⟨a0, a1, rfl⟩ := len2_of hl
  obtain ⟨z0, f0⟩ := hf 0 _ rfl
  change DataW.trod enc Tryz.prog w 0 (fun _ => true) true m 9 (List.take (Tryz.prog.cellsOf 9) [a0, a1]) = some z0 at f0
  rw [size_string] at f0
  change DataW.trod enc Tryz.prog w 0 (fun _ => true) true m 9 [a0] = some z0 at f0
  obtain ⟨z1, f1⟩ := hf 1 _ rfl
  change DataW.trod enc Tryz.prog w 0 (fun _ => true) true m 9 (List.take (Tryz.prog.cellsOf 9) [a1]) = some z1 at f1
  rw [size_string] at f1
  change DataW.trod enc Tryz.prog w 0 (fun _ => true) true m 9 [a1] = some z1 at f1
  obtain ⟨x0, c0, _, q0⟩ := DataW.trod_string Tryz.underlying9 f0
  injection c0 with c0 _
  subst c0
  obtain ⟨x1, c1, _, q1⟩ := DataW.trod_string Tryz.underlying9 f1
  injection c1 with c1 _
  subst c1
  exact ⟨⟨x0, x1⟩, rfl, q0, q1⟩
set_option maxRecDepth 100000 in
theorem open_ents {fuel : Nat} {p : Option Addr} {len cap : Nat} {x : DataW H × List MemPlace}
    (h : DataW.trod enc Tryz.prog w 0 (fun _ => true) true fuel 23 [.slice p len cap] = some x) : ∃ zs : List En, RdG ecells w w.heap.size p len zs ∧ ∀ z ∈ zs, enok z :=
  open_rows ecells (fun _ => rfl) (size := 4) (by omega) enok Tryz.underlying23 (by kernel_rfl) elem_en h
set_option maxRecDepth 100000 in
theorem open_pairs {fuel : Nat} {p : Option Addr} {len cap : Nat} {x : DataW H × List MemPlace}
    (h : DataW.trod enc Tryz.prog w 0 (fun _ => true) true fuel 46 [.slice p len cap] = some x) : ∃ zs : List (ByteArray × ByteArray), RdG pcells w w.heap.size p len zs ∧ ∀ z ∈ zs, pairok z :=
  open_rows pcells (fun _ => rfl) (size := 2) (by omega) pairok Tryz.underlying46 (by kernel_rfl) elem_pair h
/-- A message as it may come. -/
structure MsgOk (m : Mg) (x : Mx) (w : World) : Prop where
  at' : MsgAt m x w
  int : i64ok m.kd ∧ i64ok m.fr ∧ i64ok m.tq ∧ i64ok m.tm ∧ i64ok m.ix ∧ i64ok m.lt ∧ i64ok m.cm ∧ i64ok m.rd ∧ i64ok x.of
  ens : ∀ y ∈ m.en, enok y
  ecap : m.en.length ≤ x.ce ∧ x.ce ≤ maxLen ∧ (x.pe = none → x.ce = 0)
  mem : x.nm ≤ x.cm ∧ x.cm ≤ maxLen ∧ (x.pm = none → x.cm = 0)
  prs : x.np ≤ x.cp ∧ x.cp ≤ maxLen ∧ (x.pp = none → x.cp = 0)
theorem el_in {α : Type} [Inhabited α] {l : List α} {k : Nat} (h : k < l.length) : HL.el l k ∈ l := by
  unfold HL.el
  rw [List.getD_eq_getElem?_getD, List.getElem?_eq_getElem h]
  exact List.getElem_mem h
theorem le_max {n : Nat} (h : n ≤ maxLen) : n ≤ 9223372036854775807 := h

set_option maxRecDepth 100000 in
theorem size_api_Msg : Tryz.prog.cellsOf 48 = 14 := by kernel_rfl
theorem len14_of {l : List Value} (h : l.length = 14) : ∃ a0 a1 a2 a3 a4 a5 a6 a7 a8 a9 a10 a11 a12 a13, l = [a0, a1, a2, a3, a4, a5, a6, a7, a8, a9, a10, a11, a12, a13] := by
  match l, h with
  | [a0, a1, a2, a3, a4, a5, a6, a7, a8, a9, a10, a11, a12, a13], _ => exact ⟨a0, a1, a2, a3, a4, a5, a6, a7, a8, a9, a10, a11, a12, a13, rfl⟩
set_option maxRecDepth 100000 in
theorem size_bool : Tryz.prog.cellsOf 4 = 1 := by kernel_rfl
set_option maxRecDepth 100000 in
theorem size_lapi_Entry : Tryz.prog.cellsOf 23 = 1 := by kernel_rfl
set_option maxRecDepth 100000 in
theorem size_lint : Tryz.prog.cellsOf 32 = 1 := by kernel_rfl
set_option maxRecDepth 100000 in
theorem size_lapi_Pair : Tryz.prog.cellsOf 46 = 1 := by kernel_rfl
def mxcells (m : Mg) (x : Mx) : List Value := [.int .i64 m.kd, .int .i64 m.fr, .int .i64 m.tq, .int .i64 m.tm, .int .i64 m.ix, .int .i64 m.lt, .int .i64 m.cm, .int .i64 m.rd, .bool m.ok, .bool x.dn, .slice x.pe m.en.length x.ce, .slice x.pm x.nm x.cm, .int .i64 x.of, .slice x.pp x.np x.cp]
set_option maxRecDepth 100000 in
theorem elem_msg : ∀ n cs' y, DataW.trod enc Tryz.prog w 0 (fun _ => true) true n 48 cs' = some y → ∃ (m : Mg) (x : Mx), cs' = mxcells m x ∧ MsgOk m x w := by
  intro n cs' y h
  obtain ⟨hl, m, hf⟩ := struct_at Tryz.underlying48 h
  rw [size_api_Msg] at hl
  obtain ⟨a0, a1, a2, a3, a4, a5, a6, a7, a8, a9, a10, a11, a12, a13, rfl⟩ := len14_of hl
  obtain ⟨z0, f0⟩ := hf 0 _ rfl
  change DataW.trod enc Tryz.prog w 0 (fun _ => true) true m 3 (List.take (Tryz.prog.cellsOf 3) [a0, a1, a2, a3, a4, a5, a6, a7, a8, a9, a10, a11, a12, a13]) = some z0 at f0
  rw [size_int] at f0
  change DataW.trod enc Tryz.prog w 0 (fun _ => true) true m 3 [a0] = some z0 at f0
  obtain ⟨z1, f1⟩ := hf 1 _ rfl
  change DataW.trod enc Tryz.prog w 0 (fun _ => true) true m 3 (List.take (Tryz.prog.cellsOf 3) [a1, a2, a3, a4, a5, a6, a7, a8, a9, a10, a11, a12, a13]) = some z1 at f1
  rw [size_int] at f1
  change DataW.trod enc Tryz.prog w 0 (fun _ => true) true m 3 [a1] = some z1 at f1
  obtain ⟨z2, f2⟩ := hf 2 _ rfl
  change DataW.trod enc Tryz.prog w 0 (fun _ => true) true m 3 (List.take (Tryz.prog.cellsOf 3) [a2, a3, a4, a5, a6, a7, a8, a9, a10, a11, a12, a13]) = some z2 at f2
  rw [size_int] at f2
  change DataW.trod enc Tryz.prog w 0 (fun _ => true) true m 3 [a2] = some z2 at f2
  obtain ⟨z3, f3⟩ := hf 3 _ rfl
  change DataW.trod enc Tryz.prog w 0 (fun _ => true) true m 3 (List.take (Tryz.prog.cellsOf 3) [a3, a4, a5, a6, a7, a8, a9, a10, a11, a12, a13]) = some z3 at f3
  rw [size_int] at f3
  change DataW.trod enc Tryz.prog w 0 (fun _ => true) true m 3 [a3] = some z3 at f3
  obtain ⟨z4, f4⟩ := hf 4 _ rfl
  change DataW.trod enc Tryz.prog w 0 (fun _ => true) true m 3 (List.take (Tryz.prog.cellsOf 3) [a4, a5, a6, a7, a8, a9, a10, a11, a12, a13]) = some z4 at f4
  rw [size_int] at f4
  change DataW.trod enc Tryz.prog w 0 (fun _ => true) true m 3 [a4] = some z4 at f4
  obtain ⟨z5, f5⟩ := hf 5 _ rfl
  change DataW.trod enc Tryz.prog w 0 (fun _ => true) true m 3 (List.take (Tryz.prog.cellsOf 3) [a5, a6, a7, a8, a9, a10, a11, a12, a13]) = some z5 at f5
  rw [size_int] at f5
  change DataW.trod enc Tryz.prog w 0 (fun _ => true) true m 3 [a5] = some z5 at f5
  obtain ⟨z6, f6⟩ := hf 6 _ rfl
  change DataW.trod enc Tryz.prog w 0 (fun _ => true) true m 3 (List.take (Tryz.prog.cellsOf 3) [a6, a7, a8, a9, a10, a11, a12, a13]) = some z6 at f6
  rw [size_int] at f6
  change DataW.trod enc Tryz.prog w 0 (fun _ => true) true m 3 [a6] = some z6 at f6
  obtain ⟨z7, f7⟩ := hf 7 _ rfl
  change DataW.trod enc Tryz.prog w 0 (fun _ => true) true m 3 (List.take (Tryz.prog.cellsOf 3) [a7, a8, a9, a10, a11, a12, a13]) = some z7 at f7
  rw [size_int] at f7
  change DataW.trod enc Tryz.prog w 0 (fun _ => true) true m 3 [a7] = some z7 at f7
  obtain ⟨z8, f8⟩ := hf 8 _ rfl
  change DataW.trod enc Tryz.prog w 0 (fun _ => true) true m 4 (List.take (Tryz.prog.cellsOf 4) [a8, a9, a10, a11, a12, a13]) = some z8 at f8
  rw [size_bool] at f8
  change DataW.trod enc Tryz.prog w 0 (fun _ => true) true m 4 [a8] = some z8 at f8
  obtain ⟨z9, f9⟩ := hf 9 _ rfl
  change DataW.trod enc Tryz.prog w 0 (fun _ => true) true m 4 (List.take (Tryz.prog.cellsOf 4) [a9, a10, a11, a12, a13]) = some z9 at f9
  rw [size_bool] at f9
  change DataW.trod enc Tryz.prog w 0 (fun _ => true) true m 4 [a9] = some z9 at f9
  obtain ⟨z10, f10⟩ := hf 10 _ rfl
  change DataW.trod enc Tryz.prog w 0 (fun _ => true) true m 23 (List.take (Tryz.prog.cellsOf 23) [a10, a11, a12, a13]) = some z10 at f10
  rw [size_lapi_Entry] at f10
  change DataW.trod enc Tryz.prog w 0 (fun _ => true) true m 23 [a10] = some z10 at f10
  obtain ⟨z11, f11⟩ := hf 11 _ rfl
  change DataW.trod enc Tryz.prog w 0 (fun _ => true) true m 32 (List.take (Tryz.prog.cellsOf 32) [a11, a12, a13]) = some z11 at f11
  rw [size_lint] at f11
  change DataW.trod enc Tryz.prog w 0 (fun _ => true) true m 32 [a11] = some z11 at f11
  obtain ⟨z12, f12⟩ := hf 12 _ rfl
  change DataW.trod enc Tryz.prog w 0 (fun _ => true) true m 3 (List.take (Tryz.prog.cellsOf 3) [a12, a13]) = some z12 at f12
  rw [size_int] at f12
  change DataW.trod enc Tryz.prog w 0 (fun _ => true) true m 3 [a12] = some z12 at f12
  obtain ⟨z13, f13⟩ := hf 13 _ rfl
  change DataW.trod enc Tryz.prog w 0 (fun _ => true) true m 46 (List.take (Tryz.prog.cellsOf 46) [a13]) = some z13 at f13
  rw [size_lapi_Pair] at f13
  change DataW.trod enc Tryz.prog w 0 (fun _ => true) true m 46 [a13] = some z13 at f13
  obtain ⟨x0, c0, _, q0⟩ := DataW.trod_int Tryz.underlying3 f0
  injection c0 with c0 _
  subst c0
  obtain ⟨x1, c1, _, q1⟩ := DataW.trod_int Tryz.underlying3 f1
  injection c1 with c1 _
  subst c1
  obtain ⟨x2, c2, _, q2⟩ := DataW.trod_int Tryz.underlying3 f2
  injection c2 with c2 _
  subst c2
  obtain ⟨x3, c3, _, q3⟩ := DataW.trod_int Tryz.underlying3 f3
  injection c3 with c3 _
  subst c3
  obtain ⟨x4, c4, _, q4⟩ := DataW.trod_int Tryz.underlying3 f4
  injection c4 with c4 _
  subst c4
  obtain ⟨x5, c5, _, q5⟩ := DataW.trod_int Tryz.underlying3 f5
  injection c5 with c5 _
  subst c5
  obtain ⟨x6, c6, _, q6⟩ := DataW.trod_int Tryz.underlying3 f6
  injection c6 with c6 _
  subst c6
  obtain ⟨x7, c7, _, q7⟩ := DataW.trod_int Tryz.underlying3 f7
  injection c7 with c7 _
  subst c7
  obtain ⟨x8, c8, _⟩ := DataW.trod_bool Tryz.underlying4 f8
  injection c8 with c8 _
  subst c8
  obtain ⟨x9, c9, _⟩ := DataW.trod_bool Tryz.underlying4 f9
  injection c9 with c9 _
  subst c9
  obtain ⟨sp10, sl10, sc10, rfl, lc10, mc10, nl10⟩ := sl_of Tryz.underlying23 f10
  obtain ⟨sp11, sl11, sc11, rfl, lc11, mc11, nl11⟩ := sl_of Tryz.underlying32 f11
  obtain ⟨x12, c12, _, q12⟩ := DataW.trod_int Tryz.underlying3 f12
  injection c12 with c12 _
  subst c12
  obtain ⟨sp13, sl13, sc13, rfl, lc13, mc13, nl13⟩ := sl_of Tryz.underlying46 f13
  obtain ⟨es, he, heo⟩ := open_ents f10
  obtain ⟨ps, hp, hpo⟩ := open_pairs f13
  have hel := he.1
  subst hel
  refine ⟨⟨x0, x1, x2, x3, x4, x5, x6, x7, x8, es⟩, ⟨sp10, sc10, x9, sp11, sl11, sc11, x12, sp13, sl13, sc13⟩, rfl, ⟨he, fun i hi => le_max (heo _ (el_in hi)).2.2.2, ps, hp, fun i hi => ?_⟩, ⟨q0, q1, q2, q3, q4, q5, q6, q7, q12⟩, heo, ⟨lc10, mc10, nl10⟩, ⟨lc11, mc11, nl11⟩, ⟨lc13, mc13, nl13⟩⟩
  have h1 := hpo _ (el_in (k := i) (by rw [hp.1]; exact hi))
  exact ⟨le_max h1.1, le_max h1.2⟩
set_option maxRecDepth 100000 in
theorem size_api_Snap : Tryz.prog.cellsOf 34 = 3 := by kernel_rfl
theorem len3_of {l : List Value} (h : l.length = 3) : ∃ a0 a1 a2, l = [a0, a1, a2] := by
  match l, h with
  | [a0, a1, a2], _ => exact ⟨a0, a1, a2, rfl⟩
set_option maxRecDepth 100000 in
theorem elem_snap : ∀ n cs' y, DataW.trod enc Tryz.prog w 0 (fun _ => true) true n 34 cs' = some y → ∃ (a b : Int) (p : Option Addr) (l c : Nat), cs' = [.int .i64 a, .int .i64 b, .slice p l c] ∧ i64ok a ∧ i64ok b ∧ l ≤ c ∧ c ≤ maxLen ∧ (p = none → c = 0) := by
  intro n cs' y h
  obtain ⟨hl, m, hf⟩ := struct_at Tryz.underlying34 h
  rw [size_api_Snap] at hl
  obtain ⟨a0, a1, a2, rfl⟩ := len3_of hl
  obtain ⟨z0, f0⟩ := hf 0 _ rfl
  change DataW.trod enc Tryz.prog w 0 (fun _ => true) true m 3 (List.take (Tryz.prog.cellsOf 3) [a0, a1, a2]) = some z0 at f0
  rw [size_int] at f0
  change DataW.trod enc Tryz.prog w 0 (fun _ => true) true m 3 [a0] = some z0 at f0
  obtain ⟨z1, f1⟩ := hf 1 _ rfl
  change DataW.trod enc Tryz.prog w 0 (fun _ => true) true m 3 (List.take (Tryz.prog.cellsOf 3) [a1, a2]) = some z1 at f1
  rw [size_int] at f1
  change DataW.trod enc Tryz.prog w 0 (fun _ => true) true m 3 [a1] = some z1 at f1
  obtain ⟨z2, f2⟩ := hf 2 _ rfl
  change DataW.trod enc Tryz.prog w 0 (fun _ => true) true m 32 (List.take (Tryz.prog.cellsOf 32) [a2]) = some z2 at f2
  rw [size_lint] at f2
  change DataW.trod enc Tryz.prog w 0 (fun _ => true) true m 32 [a2] = some z2 at f2
  obtain ⟨x0, c0, _, q0⟩ := DataW.trod_int Tryz.underlying3 f0
  injection c0 with c0 _
  subst c0
  obtain ⟨x1, c1, _, q1⟩ := DataW.trod_int Tryz.underlying3 f1
  injection c1 with c1 _
  subst c1
  obtain ⟨sp2, sl2, sc2, rfl, lc2, mc2, nl2⟩ := sl_of Tryz.underlying32 f2
  exact ⟨x0, x1, sp2, sl2, sc2, rfl, q0, q1, lc2, mc2, nl2⟩
set_option maxRecDepth 100000 in
theorem size_arboretumlaw20_Op : Tryz.prog.cellsOf 83 = 22 := by kernel_rfl
theorem len22_of {l : List Value} (h : l.length = 22) : ∃ a0 a1 a2 a3 a4 a5 a6 a7 a8 a9 a10 a11 a12 a13 a14 a15 a16 a17 a18 a19 a20 a21, l = [a0, a1, a2, a3, a4, a5, a6, a7, a8, a9, a10, a11, a12, a13, a14, a15, a16, a17, a18, a19, a20, a21] := by
  match l, h with
  | [a0, a1, a2, a3, a4, a5, a6, a7, a8, a9, a10, a11, a12, a13, a14, a15, a16, a17, a18, a19, a20, a21], _ => exact ⟨a0, a1, a2, a3, a4, a5, a6, a7, a8, a9, a10, a11, a12, a13, a14, a15, a16, a17, a18, a19, a20, a21, rfl⟩
/-- A step as it may come. -/
structure OpOk (o : OpL) (w : World) : Prop where
  int : i64ok o.kd ∧ i64ok o.a ∧ i64ok o.b ∧ i64ok o.six ∧ i64ok o.stm
  msg : MsgOk o.m o.x w
  st : o.st.size ≤ maxLen
  l : o.ln ≤ o.lc ∧ o.lc ≤ maxLen ∧ (o.lp = none → o.lc = 0)
  s : o.sn ≤ o.sc ∧ o.sc ≤ maxLen ∧ (o.sp = none → o.sc = 0)
theorem OpOk.sizes {o : OpL} {w : World} (h : OpOk o w) : o.st.size ≤ 9223372036854775807 ∧ o.ln ≤ 9223372036854775807 ∧ o.sn ≤ 9223372036854775807 := ⟨le_max h.st, le_max (Nat.le_trans h.l.1 h.l.2.1), le_max (Nat.le_trans h.s.1 h.s.2.1)⟩
set_option maxRecDepth 100000 in
theorem elem_lop : ∀ n cs' y, DataW.trod enc Tryz.prog w 0 (fun _ => true) true n 83 cs' = some y → ∃ o : OpL, cs' = opcells o ∧ OpOk o w := by
  intro n cs' y h
  obtain ⟨hl, m, hf⟩ := struct_at Tryz.underlying83 h
  rw [size_arboretumlaw20_Op] at hl
  obtain ⟨a0, a1, a2, a3, a4, a5, a6, a7, a8, a9, a10, a11, a12, a13, a14, a15, a16, a17, a18, a19, a20, a21, rfl⟩ := len22_of hl
  obtain ⟨z0, f0⟩ := hf 0 _ rfl
  change DataW.trod enc Tryz.prog w 0 (fun _ => true) true m 3 (List.take (Tryz.prog.cellsOf 3) [a0, a1, a2, a3, a4, a5, a6, a7, a8, a9, a10, a11, a12, a13, a14, a15, a16, a17, a18, a19, a20, a21]) = some z0 at f0
  rw [size_int] at f0
  change DataW.trod enc Tryz.prog w 0 (fun _ => true) true m 3 [a0] = some z0 at f0
  obtain ⟨z1, f1⟩ := hf 1 _ rfl
  change DataW.trod enc Tryz.prog w 0 (fun _ => true) true m 3 (List.take (Tryz.prog.cellsOf 3) [a1, a2, a3, a4, a5, a6, a7, a8, a9, a10, a11, a12, a13, a14, a15, a16, a17, a18, a19, a20, a21]) = some z1 at f1
  rw [size_int] at f1
  change DataW.trod enc Tryz.prog w 0 (fun _ => true) true m 3 [a1] = some z1 at f1
  obtain ⟨z2, f2⟩ := hf 2 _ rfl
  change DataW.trod enc Tryz.prog w 0 (fun _ => true) true m 3 (List.take (Tryz.prog.cellsOf 3) [a2, a3, a4, a5, a6, a7, a8, a9, a10, a11, a12, a13, a14, a15, a16, a17, a18, a19, a20, a21]) = some z2 at f2
  rw [size_int] at f2
  change DataW.trod enc Tryz.prog w 0 (fun _ => true) true m 3 [a2] = some z2 at f2
  obtain ⟨z3, f3⟩ := hf 3 _ rfl
  change DataW.trod enc Tryz.prog w 0 (fun _ => true) true m 48 (List.take (Tryz.prog.cellsOf 48) [a3, a4, a5, a6, a7, a8, a9, a10, a11, a12, a13, a14, a15, a16, a17, a18, a19, a20, a21]) = some z3 at f3
  rw [size_api_Msg] at f3
  change DataW.trod enc Tryz.prog w 0 (fun _ => true) true m 48 [a3, a4, a5, a6, a7, a8, a9, a10, a11, a12, a13, a14, a15, a16] = some z3 at f3
  obtain ⟨z4, f4⟩ := hf 4 _ rfl
  change DataW.trod enc Tryz.prog w 0 (fun _ => true) true m 9 (List.take (Tryz.prog.cellsOf 9) [a17, a18, a19, a20, a21]) = some z4 at f4
  rw [size_string] at f4
  change DataW.trod enc Tryz.prog w 0 (fun _ => true) true m 9 [a17] = some z4 at f4
  obtain ⟨z5, f5⟩ := hf 5 _ rfl
  change DataW.trod enc Tryz.prog w 0 (fun _ => true) true m 32 (List.take (Tryz.prog.cellsOf 32) [a18, a19, a20, a21]) = some z5 at f5
  rw [size_lint] at f5
  change DataW.trod enc Tryz.prog w 0 (fun _ => true) true m 32 [a18] = some z5 at f5
  obtain ⟨z6, f6⟩ := hf 6 _ rfl
  change DataW.trod enc Tryz.prog w 0 (fun _ => true) true m 34 (List.take (Tryz.prog.cellsOf 34) [a19, a20, a21]) = some z6 at f6
  rw [size_api_Snap] at f6
  change DataW.trod enc Tryz.prog w 0 (fun _ => true) true m 34 [a19, a20, a21] = some z6 at f6
  obtain ⟨x0, c0, _, q0⟩ := DataW.trod_int Tryz.underlying3 f0
  injection c0 with c0 _
  subst c0
  obtain ⟨x1, c1, _, q1⟩ := DataW.trod_int Tryz.underlying3 f1
  injection c1 with c1 _
  subst c1
  obtain ⟨x2, c2, _, q2⟩ := DataW.trod_int Tryz.underlying3 f2
  injection c2 with c2 _
  subst c2
  obtain ⟨x17, c4, _, q17⟩ := DataW.trod_string Tryz.underlying9 f4
  injection c4 with c4 _
  subst c4
  obtain ⟨sp18, sl18, sc18, rfl, lc18, mc18, nl18⟩ := sl_of Tryz.underlying32 f5
  obtain ⟨m, x, c3, hm⟩ := elem_msg _ _ _ f3
  obtain ⟨s0, s1, p2, l2, c2, c6, g0, g1, g2, g3, g4⟩ := elem_snap _ _ _ f6
  unfold mxcells at c3
  simp only [List.cons.injEq, and_true] at c3 c6
  obtain ⟨rfl, rfl, rfl, rfl, rfl, rfl, rfl, rfl, rfl, rfl, rfl, rfl, rfl, rfl⟩ := c3
  obtain ⟨rfl, rfl, rfl⟩ := c6
  exact ⟨⟨x0, x1, x2, m, x, x17, sp18, sl18, sc18, s0, s1, p2, l2, c2⟩, rfl, ⟨q0, q1, q2, g0, g1⟩, hm, q17, ⟨lc18, mc18, nl18⟩, ⟨g2, g3, g4⟩⟩
set_option maxRecDepth 100000 in
theorem open_lops {fuel : Nat} {p : Option Addr} {len cap : Nat} {x : DataW H × List MemPlace}
    (h : DataW.trod enc Tryz.prog w 0 (fun _ => true) true fuel 80 [.slice p len cap] = some x) : ∃ zs : List OpL, RdG opcells w w.heap.size p len zs ∧ ∀ z ∈ zs, OpOk z w :=
  open_rows opcells opcells_len (by omega) (fun z => OpOk z w) Tryz.underlying80 (by kernel_rfl) elem_lop h
set_option maxRecDepth 100000 in
theorem open_lop {r : Reach} {b0 : Nat} {v : Value} {d : DataW H} {p : List MemPlace} (hv : Value.okWide Tryz.prog w r b0 83 v)
    (h : DataW.Trod enc Tryz.prog w 0 (fun _ => true) true 83 v d p) : ∃ o : OpL, v = .agg (opcells o).toArray ∧ OpOk o w := by
  obtain ⟨cs, rfl, _⟩ := okWide_struct Tryz.underlying83 hv
  obtain ⟨fuel, hf⟩ := h
  obtain ⟨o, e, hk⟩ := elem_lop _ _ _ hf
  refine ⟨o, ?_, hk⟩
  have e1 : cs.toList = _ := e
  congr 1
  exact Array.toList_inj.1 e1
set_option maxRecDepth 100000 in
theorem open_msg {r : Reach} {b0 : Nat} {v : Value} {d : DataW H} {p : List MemPlace} (hv : Value.okWide Tryz.prog w r b0 48 v)
    (h : DataW.Trod enc Tryz.prog w 0 (fun _ => true) true 48 v d p) : ∃ z : Mg × Mx, v = .agg (mxcells z.1 z.2).toArray ∧ MsgOk z.1 z.2 w := by
  obtain ⟨cs, rfl, _⟩ := okWide_struct Tryz.underlying48 hv
  obtain ⟨fuel, hf⟩ := h
  obtain ⟨m, x, e, hk⟩ := elem_msg _ _ _ hf
  refine ⟨(m, x), ?_, hk⟩
  have e1 : cs.toList = _ := e
  congr 1
  exact Array.toList_inj.1 e1
end RF
end
end Go.Proofs.YtaodldagmmephaaGreat

