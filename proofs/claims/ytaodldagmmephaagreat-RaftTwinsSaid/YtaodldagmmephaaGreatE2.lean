/- Merged texts: VrL Vr Vb Ve Vp Vc. -/
import Derived.Test.YtaodldagmmephaaGreatA3
import Derived.Test.YtaodldagmmephaaGreatA1
import Derived.OwnWalk
import Derived.Laws.IdiomStrings
import Derived.Laws.BitsLemmas
import Derived.Lib.AppendStr
import Derived.Deep.DeepCutAuto
import Derived.Laws.IdiomCopy
import Derived.Lib.ConvBytes
/- Numbers and members as bytes, plain: what is laid is read again. -/
namespace Go.Proofs.YtaodldagmmephaaGreat
open Go.RowKit
/-- A number as bytes (f: how many more there may be). -/
def varU : Nat → Nat → List UInt8
  | 0, u => [UInt8.ofNat u]
  | f + 1, u => if u < 128 then [UInt8.ofNat u] else UInt8.ofNat (u % 128 + 128) :: varU f (u / 128)
def zig (v : Int) : Nat := if 0 ≤ v then 2 * v.toNat else 2 * (-(v + 1)).toNat + 1
/-- What the code makes of a number, whatever it is. -/
def zigW (v : Int) : Nat := (if v < 0 then IntKind.u64.wrap (IntKind.u64.wrap (IntKind.u64.wrap (wrap64 (-wrap64 (v + 1))) * 2) + 1) else IntKind.u64.wrap (IntKind.u64.wrap v * 2)).toNat
def varL (v : Int) : List UInt8 := varU 9 (zigW v)
def varsL (l : List Int) : List UInt8 := l.flatMap varL
def memsL (l : List Int) : List UInt8 := varL (l.length : Int) ++ varsL l
def bytesOf (l : List UInt8) : ByteArray := ⟨l.toArray⟩
def okI (v : Int) : Prop := -9223372036854775808 ≤ v ∧ v ≤ 9223372036854775807
theorem unzig_zig (v : Int) : unzig (zig v) = v := by
  unfold unzig zig
  split
  · rw [if_pos (by omega)]
    omega
  · rw [if_neg (by omega)]
    omega
theorem zig_lt {v : Int} (h : okI v) : zig v < 2 ^ 64 := by
  unfold okI at h
  unfold zig
  split <;> omega
theorem zigW_lt (v : Int) : zigW v < 2 ^ 64 := by
  unfold zigW
  split
  · rw [IntKind.wrap_u64 (_ + 1)]; omega
  · rw [IntKind.wrap_u64 (_ * 2)]; omega
theorem zigW_eq (v : Int) : (v < 0 → ((zigW v : Nat) : Int) = IntKind.u64.wrap (IntKind.u64.wrap (IntKind.u64.wrap (wrap64 (-wrap64 (v + 1))) * 2) + 1)) ∧ (¬ v < 0 → ((zigW v : Nat) : Int) = IntKind.u64.wrap (IntKind.u64.wrap v * 2)) := by
  unfold zigW
  constructor
  · intro h
    rw [if_pos h, IntKind.wrap_u64 (_ + 1)]
    omega
  · intro h
    rw [if_neg h, IntKind.wrap_u64 (_ * 2)]
    omega
theorem zigW_ok {v : Int} (h : okI v) : zigW v = zig v := by
  unfold okI at h
  have hq := zigW_eq v
  unfold zig
  by_cases h0 : v < 0
  · have h1 := hq.1 h0
    have e : wrap64 (-wrap64 (v + 1)) = -(v + 1) := by unfold wrap64; omega
    rw [e, IntKind.wrap_u64, IntKind.wrap_u64, IntKind.wrap_u64] at h1
    rw [if_neg (by omega)]
    omega
  · have h1 := hq.2 h0
    rw [IntKind.wrap_u64, IntKind.wrap_u64] at h1
    rw [if_pos (by omega)]
    omega
theorem u8_nat {n : Nat} (h : n < 256) : (UInt8.ofNat n).toNat = n := by
  show n % 256 = n
  omega
theorem numGo_var : ∀ (f i u n : Nat) (r : List UInt8), i + f = 9 → u < 2 ^ (64 - 7 * i) → (0 < i → 0 < u) → numGo (varU f u ++ r) i n = some (n + u * 2 ^ (7 * i), r)
  | 0, i, u, n, r, hi, hu, h0 => by
    have hi9 : i = 9 := by omega
    subst hi9
    have hu2 : u < 2 := hu
    have hc : (UInt8.ofNat u).toNat = u := u8_nat (by omega)
    have hp := h0 (by omega)
    unfold varU numGo
    rw [List.cons_append, List.nil_append]
    (try dsimp only)
    rw [hc, if_neg (by omega), if_neg (by omega), if_neg (by omega), Nat.mod_eq_of_lt (show u < 128 by omega)]
  | f + 1, i, u, n, r, hi, hu, h0 => by
    unfold varU
    split
    · rename_i hlt
      have hc : (UInt8.ofNat u).toNat = u := u8_nat (by omega)
      unfold numGo
      rw [List.cons_append, List.nil_append]
      (try dsimp only)
      rw [hc, if_neg (by omega), if_neg (by omega), if_neg (by omega), Nat.mod_eq_of_lt hlt]
    · rename_i hge
      have hc : (UInt8.ofNat (u % 128 + 128)).toNat = u % 128 + 128 := u8_nat (by omega)
      have h1 : u / 128 < 2 ^ (64 - 7 * (i + 1)) := by
        have e : 2 ^ (64 - 7 * i) = 2 ^ (64 - 7 * (i + 1)) * 128 := by
          rw [show (128 : Nat) = 2 ^ 7 from rfl, ← Nat.pow_add]
          congr 1
          omega
        rw [e] at hu
        exact Nat.div_lt_of_lt_mul (by rw [Nat.mul_comm]; exact hu)
      have ih := numGo_var f (i + 1) (u / 128) (n + u % 128 * 2 ^ (7 * i)) r (by omega) h1 (fun _ => by omega)
      rw [List.cons_append]
      unfold numGo
      (try dsimp only)
      rw [hc, if_neg (by omega), if_pos (by omega), show (u % 128 + 128) % 128 = u % 128 by omega, ih]
      have e2 : 2 ^ (7 * (i + 1)) = 2 ^ (7 * i) * 128 := by
        rw [show (128 : Nat) = 2 ^ 7 from rfl, ← Nat.pow_add]
        congr 1
      congr 2
      rw [e2, Nat.add_assoc]
      congr 1
      have e3 : u = u % 128 + 128 * (u / 128) := (Nat.mod_add_div u 128).symm
      generalize 2 ^ (7 * i) = p at *
      generalize hq : u / 128 = q at *
      generalize hm : u % 128 = m at *
      rw [e3, Nat.add_mul, Nat.mul_comm p 128, ← Nat.mul_assoc, Nat.mul_comm q 128]
theorem numb_var {v : Int} (h : okI v) (r : List UInt8) : numb (varL v ++ r) = some (v, r) := by
  unfold numb varL
  rw [zigW_ok h]
  rw [numGo_var 9 0 (zig v) 0 r rfl (zig_lt h) (fun h => absurd h (Nat.lt_irrefl 0))]
  show some (unzig (0 + zig v * 2 ^ (7 * 0)), r) = _
  rw [Nat.mul_zero, Nat.pow_zero, Nat.mul_one, Nat.zero_add, unzig_zig]
theorem varS_var {v : Int} (h : okI v) (r : List UInt8) : varS (some (varL v ++ r)) = (v, some r) := by
  unfold varS
  dsimp only
  rw [numb_var h r]
theorem readS_vars : ∀ (k : Nat) (l : List Int) (r : List UInt8), (∀ x ∈ l, okI x) → k ≤ l.length → readS (some (varsL l ++ r)) k = (l.take k, some (varsL (l.drop k) ++ r))
  | 0, l, r, _, _ => rfl
  | k + 1, l, r, hl, hk => by
    have ih := readS_vars k l r hl (by omega)
    have hx : l.drop k = l[k] :: l.drop (k + 1) := List.drop_eq_getElem_cons (by omega)
    have hv := varS_var (hl l[k] (List.getElem_mem _)) (varsL (l.drop (k + 1)) ++ r)
    have e : varsL (l.drop k) ++ r = varL l[k] ++ (varsL (l.drop (k + 1)) ++ r) := by
      rw [hx]
      unfold varsL
      rw [List.flatMap_cons, List.append_assoc]
    show ((readS _ k).1 ++ [(varS (readS _ k).2).1], (varS (readS _ k).2).2) = _
    rw [ih]
    dsimp only
    rw [e, hv]
    dsimp only
    rw [List.take_succ_eq_append_getElem (by omega)]
theorem readS_none : ∀ k, (readS none k).2 = none
  | 0 => rfl
  | k + 1 => by
    show (varS (readS none k).2).2 = none
    rw [readS_none k]
    rfl
/-- What is laid as members is read as these, if they are valid. -/
theorem gm_put (l : List Int) (hl : ∀ x ∈ l, okI x) (hn : l.length ≤ 1000000) : gm (bytesOf (memsL l)) = if validB l = true then some l else none := by
  have e0 : (bytesOf (memsL l)).data.toList = varL (l.length : Int) ++ varsL l := rfl
  have hv := varS_var (v := (l.length : Int)) (by unfold okI; omega) (varsL l)
  unfold gm
  rw [e0]
  by_cases h9 : l.length ≤ 9
  · have hc : countS 9 (some (varL (l.length : Int) ++ varsL l)) = ((l.length : Int), some (varsL l)) := by
      unfold countS
      rw [hv, if_neg (by
        rintro (h | h | h)
        · cases h
        · omega
        · omega)]
    rw [hc]
    dsimp only
    have hr := readS_vars l.length l [] hl (Nat.le_refl _)
    rw [List.append_nil, List.take_length, List.drop_length, List.append_nil] at hr
    rw [show ((l.length : Int)).toNat = l.length by omega, hr]
    dsimp only
    have : varsL ([] : List Int) = [] := rfl
    rw [this]
    by_cases h : validB l = true
    · rw [if_pos ⟨rfl, h⟩, if_pos h]
    · rw [if_neg (fun e => h e.2), if_neg h]
  · have hc : countS 9 (some (varL (l.length : Int) ++ varsL l)) = (0, none) := by
      unfold countS
      rw [hv, if_pos (.inr (.inr (by omega)))]
    rw [hc]
    dsimp only
    rw [readS_none, if_neg (fun e => by cases e.1)]
    rw [if_neg]
    intro h
    have := ((valid_iff l).1 h).2.1
    omega
theorem varU_len : ∀ f u, 1 ≤ (varU f u).length ∧ (varU f u).length ≤ f + 1
  | 0, u => ⟨Nat.le_refl _, Nat.le_refl _⟩
  | f + 1, u => by
    unfold varU
    split
    · exact ⟨Nat.le_refl _, Nat.le_add_left _ _⟩
    · have := varU_len f (u / 128)
      rw [List.length_cons]
      omega
theorem varL_len (v : Int) : 1 ≤ (varL v).length ∧ (varL v).length ≤ 10 := varU_len 9 _
theorem varsL_len : ∀ l : List Int, (varsL l).length ≤ 10 * l.length
  | [] => Nat.le_refl _
  | x :: l => by
    have h1 := varL_len x
    have h2 := varsL_len l
    unfold varsL at *
    rw [List.flatMap_cons, List.length_append, List.length_cons]
    omega
theorem varsL_take (l : List Int) (i : Nat) (h : i < l.length) : varsL (l.take (i + 1)) = varsL (l.take i) ++ varL (HL.el l i) := by
  unfold varsL
  rw [List.take_succ_eq_append_getElem h, List.flatMap_append]
  congr 1
  show varL l[i] ++ [] = _
  rw [List.append_nil]
  congr 1
  unfold HL.el
  rw [List.getD_eq_getElem?_getD, List.getElem?_eq_getElem h]
  rfl
end Go.Proofs.YtaodldagmmephaaGreat

/- arboretumref1: Var, Vars, Text; arboretumref16: PutMembers. -/
namespace Go.Proofs.YtaodldagmmephaaGreat
open Go.RowKit
theorem info_u8v : (Tryz.prog.info? 5).map (fun i => (i.zero, i.size, i.bytes)) = some (some (.int .u8 0), 1, 1) := by kernel_rfl
def ucells (l : List UInt8) : List Value := l.map fun c => .int .u8 c.toNat
theorem ucells_len (l : List UInt8) : (ucells l).length = l.length := List.length_map _
theorem ucells_str (l : List UInt8) : Lib.strCells (bytesOf l) = ucells l := by
  unfold Lib.strCells ucells bytesOf
  simp
theorem ucells_app (a b : List UInt8) : ucells (a ++ b) = ucells a ++ ucells b := List.map_append
/-- Bytes that lie as a row, as a string. -/
theorem conv_bytes {W : World} {base g n cp : Nat} {l : List UInt8} (ho : W.ownsRow base 5 1 (.slice (some ⟨g, 0, none⟩) n cp) n (ucells l)) (hn : l.length = n) : (convert 142 9 (.slice (some ⟨g, 0, none⟩) n cp)).run Tryz.prog W = .ok (.string (bytesOf l)) W := by
  subst hn
  exact run_convert_bytes_back (P := Tryz.prog) W 142 9 5 ⟨g, 0, none⟩ cp l Tryz.underlying142 Tryz.underlying5 Tryz.underlying9 (fun j hj => by
    refine ho.cells (g := g) rfl j _ ?_
    unfold ucells
    rw [List.getElem?_map, List.getElem?_eq_getElem hj]
    rfl)
set_option maxHeartbeats 2000000 in
set_option maxRecDepth 100000 in
theorem conv_row {W : World} {base n cp : Nat} {q : Option Addr} {l : List UInt8} (ho : W.ownsRow base 5 1 (.slice q n cp) n (ucells l)) (hn : l.length = n) : (convert 142 9 (.slice q n cp)).run Tryz.prog W = .ok (.string (bytesOf l)) W := by
  rcases ho.2 with ⟨h, _⟩ | ⟨g, cap, cur, h, _⟩
  · injection h with h1 h2 h3
    subst h1 h2 h3
    have : l = [] := List.eq_nil_of_length_eq_zero hn
    subst this
    rw [run_convert_bytes_string W 142 9 5 none 0 0 Tryz.underlying142 Tryz.underlying5 Tryz.underlying9]
    rfl
  · injection h with h1 _ h3
    subst h1
    exact conv_bytes ho hn
set_option maxHeartbeats 2000000 in
set_option maxRecDepth 100000 in
theorem ref_var (v : Int) (w : World) :
    Calls Tryz.prog 67 #[.int .i64 v] w fun e w' => e = .returned (.string (bytesOf (varL v))) ∧ Below w.heap.size w w' := by
  obtain ⟨i0, hi0, hz0, hz1, hz2⟩ := info_parts info_u8v
  have HZL := Lib.hid (zigW_lt v)
  have HZ : Hid (varL v = varU 9 (zigW v)) := Lib.hid rfl
  have HZ1 := Lib.hid (zigW_eq v)
  generalize zigW v = u0 at *
  go_enter Tryz.func67, Tryz.ntmps67
  go_upto_if 9 with fail
  go_cut [3] (fun su wx => su = .int .u64 (u0 : Nat) ∧ wx = w)
  case first =>
    by_cases h0 : v < 0
    · have e1 := Lib.hid (HZ1.out.1 h0)
      have d0 : decide (v < 0) = true := decide_eq_true h0
      go_wp2
      go_meet
      case rel => exact ⟨by rw [e1.out], rfl⟩
    · have e1 := Lib.hid (HZ1.out.2 h0)
      have d0 : decide (v < 0) = false := decide_eq_false h0
      go_wp2
      go_meet
      case rel => exact ⟨by rw [e1.out], rfl⟩
  case rest =>
  obtain ⟨rfl, hwx⟩ := hcut
  have hwx := hwx.symm
  subst hwx
  go_wp2
  go_loopw [3, 4] (fun uv bv wr => ∃ (f u : Nat) (l : List UInt8), f ≤ 9 ∧ uv = .int .u64 (u : Nat) ∧ Hid (u < 2 ^ 64 ∧ u < 128 ^ (f + 1) ∧ l ++ varU f u = varL v ∧ l.length ≤ 10) ∧ Below w.heap.size w wr ∧ wr.ownsRow w.heap.size 5 1 bv l.length (ucells l)) (fun uv _ _ => (intOf uv).toNat)
  case atStart => exact ⟨9, u0, [], Nat.le_refl _, rfl, Lib.hid ⟨HZL.out, by have := HZL.out; show u0 < 128 ^ 10; omega, by rw [HZ.out]; rfl, Nat.zero_le _⟩, Below.refl _ _, World.ownsRow_nil _ _ _ _⟩
  case round =>
    obtain ⟨f, u, l, hf, rfl, HU, hb, ho⟩ := hrel
    obtain ⟨q, cp, rfl⟩ := owns_slice ho
    have HB := Lib.hid hb
    have HO := Lib.hid ho
    have hsz := hb.size
    clear hb ho
    have hu64 := HU.out.1
    by_cases h128 : 128 ≤ u
    · have h128I : (128 : Int) ≤ (u : Int) := by omega
      obtain ⟨f', rfl⟩ : ∃ f', f = f' + 1 := by
        cases f with
        | zero => have := HU.out.2.1; omega
        | succ f => exact ⟨f, rfl⟩
      have HN : Hid (u / 128 < 2 ^ 64 ∧ u / 128 < 128 ^ (f' + 1) ∧ (l ++ [UInt8.ofNat (u % 128 + 128)]) ++ varU f' (u / 128) = varL v ∧ ((u / 128 : Nat) : Int) = (u : Int) / 128 ∧ u / 128 < u) := Lib.hid ⟨by omega, by
        have h := HU.out.2.1
        rw [Nat.pow_succ] at h
        exact Nat.div_lt_of_lt_mul (by rw [Nat.mul_comm]; exact h), by
        have h := HU.out.2.2.1
        unfold varU at h
        rw [if_neg (by omega)] at h
        rw [List.append_assoc]
        exact h, by omega, by omega⟩
      have HC : Hid (ucells (l ++ [UInt8.ofNat (u % 128 + 128)]) = ucells l ++ [.int .u8 ((u : Int) % 128 + 128)]) := Lib.hid (by
        rw [ucells_app]
        congr 1
        show [Value.int .u8 ((UInt8.ofNat (u % 128 + 128)).toNat : Int)] = _
        rw [u8_nat (by omega)]
        congr 2)
      go_wp2_with (at_builtin; refine wpList_append_own _ rfl _ _ 142 rfl w.heap.size 5 i0 _ 1 1 Tryz.underlying142 hi0 hz0 hz1 hz2 rfl (by omega) (.slice q l.length cp) l.length (ucells l) rfl ?own ⟨wr.heap.size, 0, none⟩ 1 1 [.int .u8 ((u : Int) % 128 + 128)] rfl rfl ?cells ?one ?len ?bytes ?base ?_; (case own => exact HO.out.alloc _); (case cells => exact new_cells wr _ _); (case one => simp [Value.oneCell']); (case len => unfold maxLen; have := HU.out.2.2.2; omega); (case bytes => have := HU.out.2.2.2; omega); (case base => simp; omega); intro v8 w8 hown hgr _; have HOW := Lib.hid hown; have HGR := Lib.hid hgr; clear hown hgr)
      have HBE : Hid (Below w.heap.size w w8) := Lib.hid ((HB.out.alloc hsz _).grown HGR.out (by simp; omega) (fun g hg => (HO.out.lt g hg).1))
      have HOE : Hid (w8.ownsRow w.heap.size 5 1 v8 (l ++ [UInt8.ofNat (u % 128 + 128)]).length (ucells (l ++ [UInt8.ofNat (u % 128 + 128)]))) := Lib.hid (by rw [HC.out, List.length_append]; exact HOW.out)
      have HL2 : Hid ((l ++ [UInt8.ofNat (u % 128 + 128)]).length ≤ 10) := Lib.hid (by
        have h := congrArg List.length HN.out.2.2.1
        rw [List.length_append] at h
        have := varL_len v
        omega)
      clear HOW HGR HO HB HC
      go_wp2
      go_roundw
      case rel => exact ⟨f', u / 128, _, by omega, by rw [HN.out.2.2.2.1], Lib.hid ⟨HN.out.1, HN.out.2.1, HN.out.2.2.1, HL2.out⟩, HBE.out, HOE.out⟩
      case measure => simp [intOf]; omega
    · have h128I : ¬ (128 : Int) ≤ (u : Int) := by omega
      have HN : Hid (l ++ [UInt8.ofNat u] = varL v) := Lib.hid (by
        have h := HU.out.2.2.1
        cases f with
        | zero => exact h
        | succ f =>
          unfold varU at h
          rw [if_pos (by omega)] at h
          exact h)
      have HC : Hid (ucells (l ++ [UInt8.ofNat u]) = ucells l ++ [.int .u8 (u : Int)]) := Lib.hid (by
        rw [ucells_app]
        congr 1
        show [Value.int .u8 ((UInt8.ofNat u).toNat : Int)] = _
        rw [u8_nat (by omega)])
      go_wp2_with (at_builtin; refine wpList_append_own _ rfl _ _ 142 rfl w.heap.size 5 i0 _ 1 1 Tryz.underlying142 hi0 hz0 hz1 hz2 rfl (by omega) (.slice q l.length cp) l.length (ucells l) rfl ?own ⟨wr.heap.size, 0, none⟩ 1 1 [.int .u8 (u : Int)] rfl rfl ?cells ?one ?len ?bytes ?base ?_; (case own => exact HO.out.alloc _); (case cells => exact new_cells wr _ _); (case one => simp [Value.oneCell']); (case len => unfold maxLen; have := HU.out.2.2.2; omega); (case bytes => have := HU.out.2.2.2; omega); (case base => simp; omega); intro v8 w8 hown hgr _; have HOW := Lib.hid hown; have HGR := Lib.hid hgr; clear hown hgr; obtain ⟨g, cq, hvq, _, _, _⟩ := owns_len HOW.out (by omega); subst hvq; have hcv := conv_bytes (l := l ++ [UInt8.ofNat u]) (base := w.heap.size) (by rw [HC.out]; exact HOW.out) (by rw [List.length_append]; rfl))
      have HBE : Hid (Below w.heap.size w w8) := Lib.hid ((HB.out.alloc hsz _).grown HGR.out (by simp; omega) (fun g hg => (HO.out.lt g hg).1))
      go_wp2
      go_ret
      exact ⟨by rw [← HN.out]; rfl, HBE.out⟩
set_option maxHeartbeats 2000000 in
set_option maxRecDepth 100000 in
theorem ref_vars (p : Option Addr) (n c : Nat) (l : List Int) (w : World) (h : RdI w w.heap.size p n l) (hn : n ≤ 100000) :
    Calls Tryz.prog 68 #[.slice p n c] w fun e w' => e = .returned (.string (bytesOf (varsL l))) ∧ Below w.heap.size w w' := by
  obtain ⟨i0, hi0, hz0, hz1, hz2⟩ := info_parts info_u8v
  have HP := Lib.hid h
  have hl := h.1
  clear h
  go_enter Tryz.func68, Tryz.ntmps68
  go_wp2
  go_loopw [3, 4] (fun bv iv wr => ∃ i : Nat, i ≤ n ∧ iv = .int .i64 (i : Int) ∧ Below w.heap.size w wr ∧ wr.ownsRow w.heap.size 5 1 bv (varsL (l.take i)).length (ucells (varsL (l.take i)))) (fun _ iv _ => n - (intOf iv).toNat)
  case atStart => exact ⟨0, Nat.zero_le _, rfl, Below.refl _ _, World.ownsRow_nil _ _ _ _⟩
  case round =>
    obtain ⟨i, hi, rfl, hb, ho⟩ := hrel
    obtain ⟨q, cp, rfl⟩ := owns_slice ho
    have HB := Lib.hid hb
    have HO := Lib.hid ho
    have HLN : Hid ((varsL (l.take i)).length ≤ 1000000) := Lib.hid (by
      have := varsL_len (l.take i)
      rw [List.length_take] at this
      omega)
    clear hb ho
    by_cases hlt : i < n
    · have hltI : (i : Int) < (n : Int) := by omega
      obtain ⟨b1, o1, e1, hb1, c1⟩ := HP.out.2 (by omega)
      subst e1
      have q1 := (HB.out.cell (p := ⟨b1, o1 + i, none⟩) hb1).trans (c1 i hlt)
      have HN : Hid (varsL (l.take (i + 1)) = varsL (l.take i) ++ varL (HL.el l i)) := Lib.hid (varsL_take l i (by omega))
      have HC := Lib.hid (ref_var (HL.el l i) wr)
      have HVL := Lib.hid (varL_len (HL.el l i))
      generalize HL.el l i = x at *
      clear c1
      go_wp2_with fail
      with_reducible refine (HC.out).mono ?_
      rintro e w2 ⟨rfl, hb2⟩
      have HB2 := Lib.hid (HB.out.trans (hb2.mono HB.out.size))
      have HO2 := Lib.hid ((Fr.of_all (S := fun _ => False) hb2).owns HO.out (fun _ _ h => h))
      have HS2 := Lib.hid (Nat.le_trans HB.out.size hb2.size)
      have hss : (bytesOf (varL x)).size = (varL x).length := by show (varL x).toArray.size = _; rw [List.size_toArray]
      have HSS := Lib.hid hss
      clear hb2 q1 HO HB HC hss
      go_wp2_with (at_builtin; refine Lib.wpList_append_own_string _ rfl _ _ 142 9 rfl w.heap.size 5 i0 Tryz.underlying142 Tryz.underlying9 hi0 hz0 hz1 hz2 (.slice q (varsL (l.take i)).length cp) (varsL (l.take i)).length (ucells (varsL (l.take i))) rfl HO2.out (bytesOf (varL x)) rfl ?len ?bytes HS2.out ?_; (case len => rw [HSS.out]; unfold maxLen; have := HVL.out; have := HLN.out; omega); (case bytes => rw [HSS.out]; have := HVL.out; have := HLN.out; omega); intro v8 w8 hown hgr _; have HOW := Lib.hid hown; have HGR := Lib.hid hgr; clear hown hgr)
      have HBE : Hid (Below w.heap.size w w8) := Lib.hid (HB2.out.grown HGR.out HS2.out (fun g hg => (HO2.out.lt g hg).1))
      have HOE : Hid (w8.ownsRow w.heap.size 5 1 v8 (varsL (l.take (i + 1))).length (ucells (varsL (l.take (i + 1))))) := Lib.hid (by
        rw [HN.out, List.length_append, ucells_app, ← HSS.out, ← ucells_str (varL x)]
        exact HOW.out)
      clear HOW HGR HO2 HB2
      go_wp2
      go_roundw
      case rel => exact ⟨i + 1, by omega, by go_num, HBE.out, HOE.out⟩
      case measure => simp [intOf]; omega
    · have hltI : ¬ (i : Int) < (n : Int) := by omega
      have HFL : Hid (l.take i = l) := Lib.hid (List.take_of_length_le (by omega))
      rw [HFL.out] at HO HLN ⊢
      have HSTR : Hid ((convert 142 9 (.slice q (varsL l).length cp)).run Tryz.prog wr = .ok (.string (bytesOf (varsL l))) wr) := Lib.hid (by
        exact conv_row HO.out rfl)
      have hcv := HSTR.out
      go_wp2
      go_ret
      exact ⟨rfl, HB.out⟩
theorem bytes_app (a b : List UInt8) : bytesOf a ++ bytesOf b = bytesOf (a ++ b) := by
  apply ByteArray.ext
  simp [bytesOf]
theorem bytes_size (a : List UInt8) : (bytesOf a).size = a.length := by show a.toArray.size = _; rw [List.size_toArray]
set_option maxHeartbeats 2000000 in
set_option maxRecDepth 100000 in
theorem ref_putMembers (p : Option Addr) (n c : Nat) (l : List Int) (w : World) (h : RdI w w.heap.size p n l) (hn : n ≤ 100000) :
    Calls Tryz.prog 21 #[.slice p n c] w fun e w' => e = .returned (.string (bytesOf (memsL l))) ∧ Below w.heap.size w w' := by
  have HP := Lib.hid h
  have hl := h.1
  have HA := Lib.hid (ref_var (n : Int) w)
  have HL : Hid (bytesOf (memsL l) = bytesOf (varL (n : Int)) ++ bytesOf (varsL l)) := Lib.hid (by
    rw [bytes_app]
    unfold memsL
    rw [hl])
  have hs1 : (bytesOf (varL (n : Int))).size ≤ 10 := by rw [bytes_size]; exact (varL_len _).2
  have hs2 : (bytesOf (varsL l)).size ≤ 1000000 := by rw [bytes_size]; have := varsL_len l; omega
  clear h
  go_enter Tryz.func21, Tryz.ntmps21
  go_wp2_with fail
  with_reducible refine (HA.out).mono ?_
  rintro e w2 ⟨rfl, hb2⟩
  have HB2 := Lib.hid hb2
  have HC := Lib.hid (ref_vars p n c l w2 ((HP.out.below hb2).more hb2.size) hn)
  clear hb2
  go_wp2_with fail
  with_reducible refine (HC.out).mono ?_
  rintro e w3 ⟨rfl, hb3⟩
  have HB3 := Lib.hid (HB2.out.trans (hb3.mono HB2.out.size))
  clear hb3 HC
  have hsz : ¬ (9223372036854775807 < (bytesOf (varL (n : Int))).size + (bytesOf (varsL l)).size) := by omega
  go_wp2
  go_ret
  exact ⟨by rw [HL.out]; rfl, HB3.out⟩
end Go.Proofs.YtaodldagmmephaaGreat

/- Bytes that a conversion has laid: what is appended to them. -/
namespace Go.Proofs.YtaodldagmmephaaGreat
open Go.RowKit Go.Lib
/-- Bytes in a row of the call's own, wherever their block is marked. -/
structure UB (base : Nat) (l : List UInt8) (v : Value) (W : World) : Prop where
  ex : ∃ g cap, v = .slice (some ⟨g, 0, none⟩) l.length cap ∧ base ≤ g ∧ g < W.heap.size ∧ l.length ≤ cap ∧ cap ≤ maxLen ∧ (∀ j, j < cap → (W.cell? ⟨g, j, none⟩).isSome = true) ∧ (∀ j, j < cap → W.frozen? ⟨g, j, none⟩ = false) ∧ (∀ j u, (ucells l)[j]? = some u → W.cell? ⟨g, j, none⟩ = some u)
theorem add_zero_at (g j : Nat) : (⟨g, 0, none⟩ : Addr).add j = ⟨g, j, none⟩ := by
  unfold Addr.add
  split <;> simp_all
section
variable {W W' : World} {base : Nat} {l : List UInt8} {v : Value}
theorem UB.below (U : UB base l v W) (hb : Below W.heap.size W W') : UB base l v W' := by
  obtain ⟨g, cap, h1, h2, h3, h4, h5, h6, h7, h8⟩ := U.ex
  have hc : ∀ j, W'.cell? ⟨g, j, none⟩ = W.cell? ⟨g, j, none⟩ := fun j => hb.cell (p := ⟨g, j, none⟩) h3
  have hf : ∀ j, W'.frozen? ⟨g, j, none⟩ = W.frozen? ⟨g, j, none⟩ := fun j => (Fr.of_all (S := fun _ => False) hb).frozen (p := ⟨g, j, none⟩) h3 (fun h => h)
  exact ⟨g, cap, h1, h2, Nat.lt_of_lt_of_le h3 hb.size, h4, h5, fun j hj => by rw [hc]; exact h6 j hj, fun j hj => by rw [hf]; exact h7 j hj, fun j u hu => by rw [hc]; exact h8 j u hu⟩
theorem below_setCells (g : Nat) (hg : base ≤ g) : ∀ (vs : List Value) (o : Nat) (W : World), Below base W (W.setCells g o vs)
  | [], _, W => Below.refl _ W
  | v :: r, o, W => by
    have h1 : Below base W (W.setCell ⟨g, o, none⟩ v) := (Below.refl base W).setCell (p := ⟨g, o, none⟩) hg v
    exact h1.trans (below_setCells g hg r (o + 1) _)
theorem size_setCells (g : Nat) : ∀ (vs : List Value) (o : Nat) (W : World), (W.setCells g o vs).heap.size = W.heap.size
  | [], _, _ => rfl
  | v :: r, o, W => by
    rw [World.setCells, size_setCells g r]
    exact World.size_setCell _ _ _
/-- A string's bytes are appended. -/
theorem run_append_ub (t u ty : TypeId) (i : TypeInfo) (ht : Tryz.prog.underlying t = some (.slice 5)) (hu : Tryz.prog.underlying u = some .string) (hi : Tryz.prog.info? 5 = some i) (hz : i.zero = some (.int .u8 0)) (hs1 : i.size = 1) (hb1 : i.bytes = 1)
    (U : UB base l v W) (x : List UInt8) (hn : l.length + x.length ≤ 1000000000) (hbase : base ≤ W.heap.size) :
    ∃ v' W', (Builtin.append_ #[t, u] ty #[v, .string (bytesOf x)]).run Tryz.prog W = .ok v' W' ∧ UB base (l ++ x) v' W' ∧ Below base W W' := by
  obtain ⟨g, cap, rfl, h2, h3, h4, h5, h6, h7, h8⟩ := U.ex
  have hsz : (bytesOf x).size = x.length := bytes_size x
  have hstr := ucells_str x
  have hul : (ucells l).length = l.length := ucells_len l
  by_cases hroom : l.length + (bytesOf x).size ≤ cap
  · have hf := run_firstCells_string (P := Tryz.prog) W 1 (bytesOf x)
    have hst := run_storeCells_cells (P := Tryz.prog) g l.length (strCells (bytesOf x)) 0 W (fun j hj => by
      rw [strCells_length] at hj
      exact h6 _ (by omega)) (fun j hj => by
      rw [strCells_length] at hj
      exact h7 _ (by omega)) (strCells_oneCell (bytesOf x))
    rw [Nat.add_zero] at hst
    refine ⟨.slice (some ⟨g, 0, none⟩) (l.length + (bytesOf x).size) cap, W.setCells g l.length (strCells (bytesOf x)), ?_, ?_, below_setCells g h2 _ _ _⟩
    · simp [Builtin.append_, run_underlying ht, run_underlying hu, sizeOf, typeInfo, hi, hs1, Builtin.lenOf, hroom, hf, Addr.add_lit, hst]
    · refine ⟨g, cap, by rw [List.length_append, hsz], h2, by rw [size_setCells]; exact h3, by rw [List.length_append, ← hsz]; exact hroom, h5, fun j hj => ?_, fun j hj => by rw [World.frozen?_setCells]; exact h7 j hj, fun j w hw => ?_⟩
      · by_cases hin : l.length ≤ j ∧ j < l.length + (strCells (bytesOf x)).length
        · obtain ⟨k, rfl⟩ : ∃ k, j = l.length + k := ⟨j - l.length, by omega⟩
          rw [World.cell?_setCells_in g (strCells (bytesOf x)) l.length W (fun j hj => by
            rw [strCells_length] at hj
            exact h6 _ (by omega)) k (by omega)]
          rfl
        · rw [World.cell?_setCells_out g _ _ _ ⟨g, j, none⟩ (fun _ _ => by show j < l.length ∨ l.length + (strCells (bytesOf x)).length ≤ j; omega)]
          exact h6 j hj
      · rw [ucells_app] at hw
        by_cases hjl : j < l.length
        · rw [List.getElem?_append_left (by rw [hul]; exact hjl)] at hw
          rw [World.cell?_setCells_out g _ _ _ ⟨g, j, none⟩ (fun _ _ => .inl hjl)]
          exact h8 j w hw
        · rw [List.getElem?_append_right (by rw [hul]; omega), hul, ← hstr] at hw
          have hk : j - l.length < (strCells (bytesOf x)).length := (List.getElem?_eq_some_iff.1 hw).1
          obtain ⟨k, rfl⟩ : ∃ k, j = l.length + k := ⟨j - l.length, by omega⟩
          rw [show l.length + k - l.length = k by omega] at hw hk
          rw [World.cell?_setCells_in g (strCells (bytesOf x)) l.length W (fun j hj => by
            rw [strCells_length] at hj
            exact h6 _ (by omega)) k hk, ← hw, List.getElem?_eq_getElem hk]
  · have hr := run_append_grow_string (P := Tryz.prog) W t u ty 5 i (.int .u8 0) ht hu hi hz ⟨g, 0, none⟩ l.length cap (ucells l) (by rw [hs1, hul, Nat.mul_one]) (fun j w hw => by rw [add_zero_at]; exact h8 j w hw) (bytesOf x) (by omega) (by omega) (by rw [hb1]; exact growslice_fits (by omega) (by omega))
    have hge := grownCap_ge W (l.length + (bytesOf x).size) cap 5
    have hcm := grownCap_le_maxLen W (l.length + (bytesOf x).size) cap 5 (by unfold maxLen; omega)
    refine ⟨_, _, hr, ?_, ?_⟩
    · have hnew := heap_alloc_new W.drew (.cells ((ucells l).toArray ++ (strCells (bytesOf x)).toArray ++ Builtin.zeroCells (Value.int .u8 0).cells (grownCap W (l.length + (bytesOf x).size) cap 5 - (l.length + (bytesOf x).size))) 5)
      have hz1 : (Value.int IntKind.u8 0).cells.size = 1 := rfl
      have hsize : ((ucells l).toArray ++ (strCells (bytesOf x)).toArray ++ Builtin.zeroCells (Value.int .u8 0).cells (grownCap W (l.length + (bytesOf x).size) cap 5 - (l.length + (bytesOf x).size))).size = grownCap W (l.length + (bytesOf x).size) cap 5 := by
        simp only [Array.size_append, List.size_toArray, size_zeroCells, hz1, hul, strCells_length]
        omega
      refine ⟨W.heap.size, _, by rw [List.length_append, hsz], hbase, by simp, by rw [List.length_append, ← hsz]; exact hge, hcm, fun j hj => ?_, fun j hj => ?_, fun j w hw => ?_⟩
      · rw [cell_of_row _ W.heap.size j _ _ _ hnew, Array.getElem?_eq_getElem (by rw [hsize]; exact hj)]
        rfl
      · simp only [World.frozen?]
        rw [show W.heap.size = W.drew.heap.size from rfl, hnew]
        simp
      · rw [cell_of_row _ W.heap.size j _ _ _ hnew]
        rw [ucells_app, ← hstr] at hw
        have hj : j < (ucells l ++ strCells (bytesOf x)).length := (List.getElem?_eq_some_iff.1 hw).1
        rw [List.length_append] at hj
        rw [Array.getElem?_append_left (by simp only [Array.size_append, List.size_toArray]; exact hj), show ((ucells l).toArray ++ (strCells (bytesOf x)).toArray) = (ucells l ++ strCells (bytesOf x)).toArray by simp, List.getElem?_toArray]
        exact hw
    · exact ((Below.refl base W).drew).alloc hbase _
end
end Go.Proofs.YtaodldagmmephaaGreat

/- arboretumref1: Text, Bool; arboretumref16: Put. -/
namespace Go.Proofs.YtaodldagmmephaaGreat
open Go.RowKit Go.Lib
theorem strOf (s : ByteArray) : s = bytesOf s.data.toList := by
  apply ByteArray.ext
  simp [bytesOf]
/-- []byte of a string. -/
theorem conv_ub (W : World) (x : List UInt8) (base : Nat) (hb : base ≤ W.heap.size) (hn : x.length ≤ 1000000000) : ∃ v W', (convert 9 142 (.string (bytesOf x))).run Tryz.prog W = .ok v W' ∧ UB base x v W' ∧ Below base W W' := by
  have hr := Lib.run_convert_string_bytes (P := Tryz.prog) W 9 142 5 (bytesOf x) Tryz.underlying9 Tryz.underlying142 Tryz.underlying5
  have hsz := bytes_size x
  have hge := grownCap_ge W (bytesOf x).size 0 5
  have hcm := grownCap_le_maxLen W (bytesOf x).size 0 5 (by unfold maxLen; omega)
  have hcs : (bytesCells W 5 (bytesOf x)).size = grownCap W (bytesOf x).size 0 5 := by
    unfold bytesCells
    have : ((bytesOf x).data.map fun b => Value.int .u8 b.toNat).size = (bytesOf x).size := by rw [Array.size_map]; rfl
    rw [Array.size_append, this, Array.size_replicate]
    omega
  have hnew := bytesWorld_at_new W 5 (bytesOf x)
  refine ⟨_, _, hr, ⟨W.heap.size, _, by rw [hsz], hb, by rw [bytesWorld_size]; omega, by rw [← hsz]; exact hge, hcm, fun j hj => ?_, fun j hj => ?_, fun j u hu => ?_⟩, ?_⟩
  · rw [cell_of_row _ W.heap.size j _ _ _ hnew, Array.getElem?_eq_getElem (by rw [hcs]; exact hj)]
    rfl
  · simp only [World.frozen?, hnew]
    rw [hcs]
    simp
    omega
  · have hj : j < (ucells x).length := (List.getElem?_eq_some_iff.1 hu).1
    rw [ucells_len] at hj
    rw [bytesWorld_cell W 5 (bytesOf x) j (by rw [hsz]; exact hj), ← hu]
    unfold ucells bytesOf
    simp [List.getD_eq_getElem?_getD, hj]
  · have hF : Fr (fun _ => False) W (bytesWorld W 5 (bytesOf x)) := by
      refine ⟨?_, ?_, ?_, by rw [bytesWorld_size]; omega, fun k hk _ => bytesWorld_at_old W _ _ k hk⟩
      · simp [bytesWorld, World.freeze, World.alloc, World.drew, -World.alloc_eq, -World.drew_eq]
      · simp [bytesWorld, World.freeze, World.alloc, World.drew, -World.alloc_eq, -World.drew_eq]
      · simp [bytesWorld, World.freeze, World.alloc, World.drew, -World.alloc_eq, -World.drew_eq]
    exact (hF.below (B := W.heap.size) (Nat.le_refl _) (fun _ h => h.elim)).mono hb
theorem conv_back {base : Nat} {l : List UInt8} {v : Value} {W : World} (U : UB base l v W) : (convert 142 9 v).run Tryz.prog W = .ok (.string (bytesOf l)) W := by
  obtain ⟨g, cap, rfl, h2, h3, h4, h5, h6, h7, h8⟩ := U.ex
  exact run_convert_bytes_back (P := Tryz.prog) W 142 9 5 ⟨g, 0, none⟩ cap l Tryz.underlying142 Tryz.underlying5 Tryz.underlying9 (fun j hj => by
    rw [add_zero_at]
    refine h8 j _ ?_
    unfold ucells
    rw [List.getElem?_map, List.getElem?_eq_getElem hj]
    rfl)
theorem wpList_append_ub {W : World} {ops : Array Oper} {rest : List Oper} {o : Oper} {a : Act} {Q : Exit → Act → World → Prop} (hgd : o.guard = none) (sl x : Operand)
    (ho : o.op = .call { callee := .builtin .append, args := #[sl, x], argTypes := #[142, 9] }) {base : Nat} {l : List UInt8} {v : Value} (hs : a.eval sl = v) (U : UB base l v W) (y : List UInt8) (hx : a.eval x = .string (bytesOf y)) (hn : l.length + y.length ≤ 1000000000) (hbase : base ≤ W.heap.size)
    (h : ∀ v' W', UB base (l ++ y) v' W' → Below base W W' → wpList Tryz.prog ops Q rest (a.put o.dst v') W') : wpList Tryz.prog ops Q (o :: rest) a W := by
  obtain ⟨i0, hi0, hz0, hz1, hz2⟩ := info_parts info_u8v
  refine wpList_plain hgd fun K hK => ?_
  obtain ⟨v', W', hr, h2, h3⟩ := run_append_ub (base := base) 142 9 o.type i0 Tryz.underlying142 Tryz.underlying9 hi0 hz0 hz1 hz2 U y hn hbase
  unfold Oper.wp execOp
  simp only [ho, resolve, invoke, builtin, Sem.run_bind, Sem.run_pure, Result.andThen_ok, List.map_toArray, List.map_cons, List.map_nil, hs, hx, hr]
  exact hK _ _ (h v' W' h2 h3)
def textL (s : ByteArray) : List UInt8 := varL (s.size : Int) ++ s.data.toList
theorem textL_len (s : ByteArray) : (textL s).length ≤ 10 + s.size := by
  unfold textL
  rw [List.length_append]
  have h := varL_len (s.size : Int)
  have : s.data.toList.length = s.size := Array.length_toList
  omega
set_option maxHeartbeats 2000000 in
set_option maxRecDepth 100000 in
theorem ref_text (s : ByteArray) (w : World) (hs : s.size ≤ 1000000000) :
    Calls Tryz.prog 130 #[.string s] w fun e w' => e = .returned (.string (bytesOf (textL s))) ∧ Below w.heap.size w w' := by
  have HA := Lib.hid (ref_var (s.size : Int) w)
  have HL : Hid (bytesOf (textL s) = bytesOf (varL (s.size : Int)) ++ s) := Lib.hid (by
    conv => rhs; rw [strOf s]
    rw [bytes_app]
    unfold textL
    conv => lhs; rw [strOf s]
    rfl)
  have hs1 : (bytesOf (varL (s.size : Int))).size ≤ 10 := by rw [bytes_size]; exact (varL_len _).2
  go_enter Tryz.func130, Tryz.ntmps130
  go_wp2_with fail
  with_reducible refine (HA.out).mono ?_
  rintro e w2 ⟨rfl, hb2⟩
  have HB2 := Lib.hid hb2
  clear hb2 HA
  have hsz : ¬ (9223372036854775807 < (bytesOf (varL (s.size : Int))).size + s.size) := by omega
  go_wp2
  go_ret
  exact ⟨by rw [HL.out]; rfl, HB2.out⟩
def boolL (b : Bool) : List UInt8 := if b then [1] else [0]
set_option maxHeartbeats 2000000 in
set_option maxRecDepth 100000 in
theorem ref_bool (b : Bool) (w : World) :
    Calls Tryz.prog 128 #[.bool b] w fun e w' => e = .returned (.string (bytesOf (boolL b))) ∧ w' = w := by
  go_enter Tryz.func128, Tryz.ntmps128
  cases b with
  | true =>
    go_wp2
    go_ret
    exact ⟨rfl, rfl⟩
  | false =>
    go_wp2
    go_ret
    exact ⟨rfl, rfl⟩
end Go.Proofs.YtaodldagmmephaaGreat

/- arboretumref16.Put: entries as bytes. -/
namespace Go.Proofs.YtaodldagmmephaaGreat
open Go.RowKit Go.Lib
def entL (e : En) : List UInt8 := varL e.ix ++ (varL e.tm ++ (varL e.kd ++ textL e.da))
def putL (l : List En) : List UInt8 := varL (l.length : Int) ++ l.flatMap entL
theorem entL_len (e : En) : (entL e).length ≤ 40 + e.da.size := by
  unfold entL
  rw [List.length_append, List.length_append, List.length_append]
  have h1 := varL_len e.ix
  have h2 := varL_len e.tm
  have h3 := varL_len e.kd
  have h4 := textL_len e.da
  omega
theorem ents_len : ∀ (l : List En), (∀ e ∈ l, e.da.size ≤ 2000000) → (l.flatMap entL).length ≤ l.length * 2000040
  | [], _ => Nat.le_refl _
  | x :: l, h => by
    rw [List.flatMap_cons, List.length_append, List.length_cons]
    have h1 := entL_len x
    have h2 := h x List.mem_cons_self
    have h3 := ents_len l (fun e he => h e (List.mem_cons_of_mem _ he))
    omega
theorem ents_take (l : List En) (i : Nat) (h : i < l.length) : (l.take (i + 1)).flatMap entL = (l.take i).flatMap entL ++ entL (HL.el l i) := by
  rw [List.take_succ_eq_append_getElem h, List.flatMap_append]
  congr 1
  show entL l[i] ++ [] = _
  rw [List.append_nil]
  congr 1
  unfold HL.el
  rw [List.getD_eq_getElem?_getD, List.getElem?_eq_getElem h]
  rfl
set_option maxHeartbeats 2000000 in
set_option maxRecDepth 100000 in
theorem ref_put_ens (p : Option Addr) (n c : Nat) (l : List En) (w : World) (h : RdG ecells w w.heap.size p n l) (hda : ∀ e ∈ l, e.da.size ≤ 2000000) (hn : n ≤ 100) :
    Calls Tryz.prog 129 #[.slice p n c] w fun e w' => e = .returned (.string (bytesOf (putL l))) ∧ Below w.heap.size w w' := by
  have HP := Lib.hid h
  have HDA := Lib.hid hda
  have hl := h.1
  have HA := Lib.hid (ref_var (n : Int) w)
  have HLL : Hid (putL l = varL (n : Int) ++ l.flatMap entL) := Lib.hid (by unfold putL; rw [hl])
  have HVN := Lib.hid (varL_len (n : Int))
  clear h hda
  go_enter Tryz.func129, Tryz.ntmps129
  go_wp2_with fail
  with_reducible refine (HA.out).mono ?_
  rintro e w1 ⟨rfl, hb1⟩
  obtain ⟨v0, W2, hcv, hub, hb2⟩ := conv_ub w1 (varL (n : Int)) w.heap.size hb1.size (by have := HVN.out; omega)
  have HB2 : Hid (Below w.heap.size w W2 ∧ UB w.heap.size (varL (n : Int) ++ (l.take 0).flatMap entL) v0 W2) := Lib.hid ⟨hb1.trans hb2, by rw [List.take_zero]; show UB _ (varL (n : Int) ++ []) _ _; rw [List.append_nil]; exact hub⟩
  clear hub hb1 hb2 HA
  go_wp2
  clear hcv
  go_loopw [3, 4] (fun bv iv wr => ∃ i : Nat, i ≤ n ∧ iv = .int .i64 (i : Int) ∧ Hid (Below w.heap.size w wr ∧ UB w.heap.size (varL (n : Int) ++ (l.take i).flatMap entL) bv wr)) (fun _ iv _ => n - (intOf iv).toNat)
  case atStart => exact ⟨0, Nat.zero_le _, rfl, HB2⟩
  case round =>
    obtain ⟨i, hi, rfl, HBU⟩ := hrel
    by_cases hlt : i < n
    case neg =>
      have hltI : ¬ (i : Int) < (n : Int) := by omega
      have HFL : Hid (l.take i = l) := Lib.hid (List.take_of_length_le (by omega))
      have hcv := conv_back HBU.out.2
      rw [HFL.out, ← HLL.out] at hcv
      have HBF := Lib.hid HBU.out.1
      go_wp2
      go_ret
      exact ⟨rfl, HBF.out⟩
    case pos =>
    have hltI : (i : Int) < (n : Int) := by omega
    obtain ⟨b1, o1, e1, hb1, c1⟩ := HP.out.2 (by omega)
    subst e1
    have hlen0 : (varL (n : Int) ++ (l.take i).flatMap entL).length ≤ 10 + 100 * 2000040 := by
      rw [List.length_append]
      have h1 := HVN.out.2
      have h2 := ents_len (l.take i) (fun e he => HDA.out e (List.mem_of_mem_take he))
      rw [List.length_take] at h2
      omega
    have hdx := HDA.out (HL.el l i) (by
      unfold HL.el
      rw [List.getD_eq_getElem?_getD, List.getElem?_eq_getElem (by omega)]
      exact List.getElem_mem _)
    have HTK := Lib.hid (ents_take l i (by omega))
    have HCE : Hid (∀ j u, (ecells (HL.el l i))[j]? = some u → j < 4 → ∀ W, Below w.heap.size w W → W.cell? ⟨b1, o1 + i * 4 + j, none⟩ = some u) := Lib.hid (fun j u hu hj W hW => by
      refine (hW.cell (p := ⟨b1, o1 + i * 4 + j, none⟩) hb1).trans ?_
      rw [Nat.add_assoc]
      refine c1 (i * 4 + j) u ?_
      rw [rowOf_at ecells ecells_length l i j (by omega) hj]
      exact hu)
    have HN0 := Lib.hid hlen0
    have HDX := Lib.hid hdx
    clear c1 hb1 hlen0 hdx
    generalize HL.el l i = x at *
    obtain ⟨L0, hL0⟩ : ∃ L0, L0 = varL (n : Int) ++ (l.take i).flatMap entL := ⟨_, rfl⟩
    rw [← hL0] at HBU HN0
    have HL1 : Hid (varL (n : Int) ++ (l.take (i + 1)).flatMap entL = L0 ++ entL x) := Lib.hid (by rw [HTK.out, hL0, List.append_assoc])
    clear hL0
    have HB := Lib.hid HBU.out.1
    have HU := Lib.hid HBU.out.2
    have k1 := varL_len x.ix
    have k2 := varL_len x.tm
    have k3 := varL_len x.kd
    have k4 := textL_len x.da
    have k5 := HN0.out
    have k6 := HDX.out
    -- the index
    have z0 : wr.cell? ⟨b1, o1 + i * 4, none⟩ = some (.int .i64 x.ix) := HCE.out 0 _ rfl (by omega) _ HB.out
    have HC1 := Lib.hid (ref_var x.ix wr)
    clear HBU
    go_wp2_with fail
    with_reducible refine (HC1.out).mono ?_
    rintro e W3 ⟨rfl, hb3⟩
    have HB3 := Lib.hid (HB.out.trans (hb3.mono HB.out.size))
    have HU3 := Lib.hid (HU.out.below hb3)
    clear z0 hb3 HC1 HB HU
    go_wp2_with (at_builtin; refine wpList_append_ub rfl _ _ rfl rfl HU3.out (varL x.ix) rfl (by omega) HB3.out.size ?_; intro v4 W4 hu4 hb4; have HB4 := Lib.hid (HB3.out.trans hb4); have HU4 := Lib.hid hu4; have z1 : W4.cell? ⟨b1, o1 + i * 4 + 1, none⟩ = some (.int .i64 x.tm) := HCE.out 1 _ rfl (by omega) _ HB4.out; have HC2 := Lib.hid (ref_var x.tm W4); clear hu4 hb4)
    with_reducible refine (HC2.out).mono ?_
    rintro e W5 ⟨rfl, hb5⟩
    have HB5 := Lib.hid (HB4.out.trans (hb5.mono HB4.out.size))
    have HU5 := Lib.hid (HU4.out.below hb5)
    have k7 : (L0 ++ varL x.ix).length = L0.length + (varL x.ix).length := List.length_append
    clear z1 hb5 HC2 HB4 HU4 HB3 HU3
    go_wp2_with (at_builtin; refine wpList_append_ub rfl _ _ rfl rfl HU5.out (varL x.tm) rfl (by omega) HB5.out.size ?_; intro v6 W6 hu6 hb6; have HB6 := Lib.hid (HB5.out.trans hb6); have HU6 := Lib.hid hu6; have z2 : W6.cell? ⟨b1, o1 + i * 4 + 2, none⟩ = some (.int .i64 x.kd) := HCE.out 2 _ rfl (by omega) _ HB6.out; have HC3 := Lib.hid (ref_var x.kd W6); clear hu6 hb6)
    with_reducible refine (HC3.out).mono ?_
    rintro e W7 ⟨rfl, hb7⟩
    have HB7 := Lib.hid (HB6.out.trans (hb7.mono HB6.out.size))
    have HU7 := Lib.hid (HU6.out.below hb7)
    have k8 : (L0 ++ varL x.ix ++ varL x.tm).length = (L0 ++ varL x.ix).length + (varL x.tm).length := List.length_append
    clear z2 hb7 HC3 HB6 HU6 HB5 HU5
    go_wp2_with (at_builtin; refine wpList_append_ub rfl _ _ rfl rfl HU7.out (varL x.kd) rfl (by omega) HB7.out.size ?_; intro v8 W8 hu8 hb8; have HB8 := Lib.hid (HB7.out.trans hb8); have HU8 := Lib.hid hu8; have z3 : W8.cell? ⟨b1, o1 + i * 4 + 3, none⟩ = some (.string x.da) := HCE.out 3 _ rfl (by omega) _ HB8.out; have HC4 := Lib.hid (ref_text x.da W8 (by omega)); clear hu8 hb8)
    with_reducible refine (HC4.out).mono ?_
    rintro e W9 ⟨rfl, hb9⟩
    have HB9 := Lib.hid (HB8.out.trans (hb9.mono HB8.out.size))
    have HU9 := Lib.hid (HU8.out.below hb9)
    have k9 : (L0 ++ varL x.ix ++ varL x.tm ++ varL x.kd).length = (L0 ++ varL x.ix ++ varL x.tm).length + (varL x.kd).length := List.length_append
    have HEQ : Hid (L0 ++ varL x.ix ++ varL x.tm ++ varL x.kd ++ textL x.da = L0 ++ entL x) := Lib.hid (by
      unfold entL
      rw [List.append_assoc, List.append_assoc, List.append_assoc])
    clear z3 hb9 HC4 HB8 HU8 HB7 HU7
    go_wp2_with (at_builtin; refine wpList_append_ub rfl _ _ rfl rfl HU9.out (textL x.da) rfl (by omega) HB9.out.size ?_; intro v10 W10 hu10 hb10; have HFB : Hid (Below w.heap.size w W10 ∧ UB w.heap.size (varL (n : Int) ++ (l.take (i + 1)).flatMap entL) v10 W10) := Lib.hid ⟨HB9.out.trans hb10, by rw [HL1.out, ← HEQ.out]; exact hu10⟩; clear hu10 hb10)
    have hwi : IntKind.i64.wrap ((i : Int) + 1) = (i : Int) + 1 := IntWalk.i64_in _ (by omega)
    go_roundw
    case rel => exact ⟨i + 1, by omega, by go_num, HFB⟩
    case measure => simp [intOf]; omega
end Go.Proofs.YtaodldagmmephaaGreat

/- arboretumref1: Fix, Crc, where no num.Fix is. (Printed by gen-yfix.py.) -/
namespace Go.Proofs.YtaodldagmmephaaGreat
open Go.RowKit
theorem info_u8 : (Tryz.prog.info? 5).map (fun i => (i.zero, i.size, i.bytes)) = some (some (.int .u8 0), 1, 1) := by kernel_rfl
def fixL (v n : Nat) : List UInt8 := (List.range n).map fun i => UInt8.ofNat (v / 2 ^ (8 * i) % 256)
def fixS (v n : Nat) : ByteArray := ⟨(fixL v n).toArray⟩
theorem fixL_length (v n : Nat) : (fixL v n).length = n := by simp [fixL]
theorem fixS_size (v n : Nat) : (fixS v n).size = n := by
  show (fixL v n).toArray.size = n
  rw [List.size_toArray, fixL_length]
theorem fixL_at (v n i : Nat) (h : i < (fixL v n).length) : (((fixL v n)[i]).toNat : Int) = (v : Int) / 2 ^ (8 * i) % 256 := by
  simp only [fixL, List.getElem_map, List.getElem_range]
  simp
def byteAt (b : ByteArray) (i : Nat) : Nat := (b.data.getD i 0).toNat
theorem byteAt_lt (b : ByteArray) (i : Nat) : byteAt b i < 256 := by unfold byteAt; exact UInt8.toNat_lt _
theorem byteAt_get (b : ByteArray) (i : Nat) (h : i < b.size) : (b[i].toNat : Int) = (byteAt b i : Nat) := by
  unfold byteAt
  rw [Array.getD_eq_getD_getElem?, Array.getElem?_eq_getElem h]
  rfl
theorem i64_small (n : Nat) (h : n < 2 ^ 63) : IntKind.i64.wrap (n : Int) = n := by
  rw [IntKind.wrap_i64]
  omega
def crcBit (x : Nat) : Nat := if x % 2 = 1 then (x / 2) ^^^ 3988292384 else x / 2
def crcBits (x : Nat) : Nat → Nat
  | 0 => x
  | k + 1 => crcBit (crcBits x k)
def crcN (s : ByteArray) : Nat → Nat
  | 0 => 4294967295
  | i + 1 => crcBits (crcN s i ^^^ byteAt s i) 8
/-- A check sum. -/
def crcS (s : ByteArray) : Nat := 4294967295 - crcN s s.size
theorem crcBit_lt (x : Nat) (h : x < 2 ^ 32) : crcBit x < 2 ^ 32 := by
  unfold crcBit
  split
  · exact Nat.xor_lt_two_pow (by omega) (by omega)
  · omega
theorem crcBits_lt (x k : Nat) (h : x < 2 ^ 32) : crcBits x k < 2 ^ 32 := by
  induction k with
  | zero => exact h
  | succ k ih => exact crcBit_lt _ ih
theorem crcN_lt (s : ByteArray) (i : Nat) : crcN s i < 2 ^ 32 := by
  induction i with
  | zero => show 4294967295 < 2 ^ 32; omega
  | succ i ih => exact crcBits_lt _ _ (Nat.xor_lt_two_pow ih (Nat.lt_of_lt_of_le (byteAt_lt s i) (by omega)))
def fcells (v i : Nat) : List Value := (List.range i).map fun j => .int .u8 ((v : Int) / 2 ^ (8 * j) % 256)
theorem fcells_succ (v i : Nat) : fcells v (i + 1) = fcells v i ++ [.int .u8 ((v : Int) / 2 ^ (8 * i) % 256)] := by
  unfold fcells
  rw [List.range_succ, List.map_append]
  rfl
theorem pow_next (v i : Nat) : v / 2 ^ (8 * (i + 1)) = v / 2 ^ (8 * i) / 256 := by
  rw [Nat.div_div_eq_div_mul, show 8 * (i + 1) = 8 * i + 8 by omega, Nat.pow_add]
set_option maxHeartbeats 1000000 in
set_option maxRecDepth 100000 in
theorem ref_fix (v n : Nat) (w : World) (hv : v < 2 ^ (8 * n)) (h1 : 1 ≤ n) (h2 : n ≤ 7) (hm : (v : Int) ≤ 9223372036854775807) :
    Calls Tryz.prog 131 #[.int .i64 v, .int .i64 n] w fun e w' => e = .returned (.tuple #[.string (fixS v n), .int .i64 0]) ∧ Below w.heap.size w w' := by
  obtain ⟨i0, hi0, hz0, hz1, hz2⟩ := info_parts info_u8
  have HV0 : Hid (v / 2 ^ (8 * n) = 0) := Lib.hid (Nat.div_eq_of_lt hv)
  clear hv
  go_enter Tryz.func131, Tryz.ntmps131
  go_wp2
  go_loopw [0, 6, 7] (fun vv bv iv wr => ∃ i : Nat, i ≤ n ∧ iv = .int .i64 i ∧ vv = .int .i64 (v / 2 ^ (8 * i) : Nat) ∧ Below w.heap.size w wr ∧ wr.ownsRow w.heap.size 5 1 bv i (fcells v i)) (fun _ _ iv _ => n - (intOf iv).toNat)
  case atStart => exact ⟨0, by omega, rfl, by simp, Below.refl _ _, World.ownsRow_nil _ _ _ _⟩
  case round =>
    obtain ⟨i, hi, rfl, rfl, hb, ho⟩ := hrel
    obtain ⟨q, cp, rfl⟩ := owns_slice ho
    have HB := Lib.hid hb
    have HO := Lib.hid ho
    have hsz := hb.size
    clear hb ho
    by_cases hlt : i < n
    · have HN : Hid (fcells v (i + 1) = fcells v i ++ [.int .u8 (((v / 2 ^ (8 * i) : Nat) : Int) % 256)]) := Lib.hid (by rw [fcells_succ]; simp)
      have HP : Hid (v / 2 ^ (8 * (i + 1)) = v / 2 ^ (8 * i) / 256) := Lib.hid (pow_next v i)
      have hvi : ((v / 2 ^ (8 * i) : Nat) : Int) ≤ 9223372036854775807 := by
        have : v / 2 ^ (8 * i) ≤ v := Nat.div_le_self _ _
        omega
      generalize v / 2 ^ (8 * i) = x at *
      go_wp2_with (at_builtin; refine wpList_append_own _ rfl _ _ 142 rfl w.heap.size 5 i0 _ 1 1 Tryz.underlying142 hi0 hz0 hz1 hz2 rfl (by omega) (.slice q i cp) i (fcells v i) rfl ?own ⟨wr.heap.size, 0, none⟩ 1 1 [.int .u8 ((x : Int) % 256)] rfl rfl ?cells ?one ?len ?bytes ?base ?_; (case own => exact HO.out.alloc _); (case cells => exact new_cells wr _ _); (case one => simp [Value.oneCell']); (case len => unfold maxLen; omega); (case bytes => omega); (case base => simp; omega); intro v8 w8 hown hgr _; have HOW := Lib.hid hown; have HGR := Lib.hid hgr; clear hown hgr)
      have HBE : Hid (Below w.heap.size w w8) := Lib.hid ((HB.out.alloc hsz _).grown HGR.out (by simp; omega) (fun g hg => (HO.out.lt g hg).1))
      have HOE : Hid (w8.ownsRow w.heap.size 5 1 v8 (i + 1) (fcells v (i + 1))) := Lib.hid (by rw [HN.out]; exact HOW.out)
      clear HOW HGR HO HB
      go_wp2
      go_roundw
      case rel => exact ⟨i + 1, by omega, by go_num, by rw [HP.out]; simp, HBE.out, HOE.out⟩
      case measure => simp [intOf]; omega
    · obtain rfl : i = n := by omega
      rw [HV0.out]
      obtain ⟨g, cq, hvq, hgb, hgl, _⟩ := owns_len HO.out (by omega)
      injection hvq with hvq1 _ hvq2
      subst hvq1 hvq2
      have hcv : (convert 142 9 (.slice (some ⟨g, 0, none⟩) i cp)).run Tryz.prog wr = .ok (.string (fixS v i)) wr := by
        have e := run_convert_bytes_back (P := Tryz.prog) wr 142 9 5 ⟨g, 0, none⟩ cp (fixL v i) Tryz.underlying142 Tryz.underlying5 Tryz.underlying9 (fun j hj => by
          have hj2 : j < i := by rw [fixL_length] at hj; exact hj
          refine HO.out.cells (g := g) rfl j _ ?_
          rw [fixL_at v i j hj]
          unfold fcells
          rw [List.getElem?_map, List.getElem?_range hj2]
          rfl)
        rw [fixL_length] at e
        exact e
      go_wp2
      go_ret2
      exact ⟨rfl, HB.out⟩
theorem i64_xor (a z : Nat) (ha : a < 2 ^ 63) (hz : z < 2 ^ 63) : bits .xor .i64 (a : Int) (z : Int) = ((a ^^^ z : Nat) : Int) := by
  have e1 : (BitVec.ofInt 64 (a : Int)).toNat = a := by rw [BitVec.toNat_ofInt]; omega
  have e2 : (BitVec.ofInt 64 (z : Int)).toNat = z := by rw [BitVec.toNat_ofInt]; omega
  have key : (BitVec.ofInt 64 (a : Int) ^^^ BitVec.ofInt 64 (z : Int)).toNat = a ^^^ z := by rw [BitVec.toNat_xor, e1, e2]
  show IntKind.i64.wrap ((BitVec.ofInt 64 (a : Int) ^^^ BitVec.ofInt 64 (z : Int)).toNat : Nat) = _
  rw [key]
  exact i64_small _ (Nat.xor_lt_two_pow ha hz)
set_option maxHeartbeats 2000000 in
set_option maxRecDepth 100000 in
theorem ref_crc (s : ByteArray) (w : World) (hs : s.size ≤ 1000000000) :
    Calls Tryz.prog 132 #[.string s] w fun e w' => e = .returned (.int .i64 (crcS s : Nat)) ∧ w' = w := by
  go_enter Tryz.func132, Tryz.ntmps132
  go_wp2
  go_loop [3, 4] (fun xv iv => ∃ i : Nat, i ≤ s.size ∧ iv = .int .i64 i ∧ xv = .int .i64 (crcN s i : Nat)) (fun _ iv => s.size - (intOf iv).toNat)
  case atStart => exact ⟨0, by omega, rfl, rfl⟩
  case round =>
    obtain ⟨i, hi, rfl, rfl⟩ := hrel
    by_cases hlt : i < s.size
    · have hbg := byteAt_get s i hlt
      have hbl := byteAt_lt s i
      have hcl := crcN_lt s i
      have hx := i64_xor (crcN s i) (byteAt s i) (by omega) (by omega)
      have hxl : crcN s i ^^^ byteAt s i < 2 ^ 32 := Nat.xor_lt_two_pow hcl (by omega)
      have HN : Hid (crcN s (i + 1) = crcBits (crcN s i ^^^ byteAt s i) 8) := Lib.hid rfl
      have HXL := Lib.hid hxl
      clear hxl
      generalize hX : crcN s i ^^^ byteAt s i = X at *
      clear hX
      go_wp2
      go_loop [3, 5] (fun xv kv => ∃ k : Nat, k ≤ 8 ∧ kv = .int .i64 k ∧ xv = .int .i64 (crcBits X k : Nat)) (fun _ kv => 8 - (intOf kv).toNat)
      case atStart => exact ⟨0, by omega, rfl, rfl⟩
      case round =>
        obtain ⟨k, hk, rfl, rfl⟩ := hrel
        by_cases hk8 : k < 8
        · have hbt := crcBits_lt X k HXL.out
          have HNX : Hid (crcBits X (k + 1) = crcBit (crcBits X k)) := Lib.hid rfl
          generalize crcBits X k = Y at *
          have hq : wrap64 ((Y : Int) / 2) = (Y : Int) / 2 := by unfold wrap64; omega
          by_cases ho : Y % 2 = 1
          · have hx2 : bits BinOp.xor IntKind.i64 ((Y : Int) / 2) 3988292384 = ((Y / 2 ^^^ 3988292384 : Nat) : Int) := by
              have e := i64_xor (Y / 2) 3988292384 (by omega) (by omega)
              simpa using e
            have ha1 : ((Y : Int) % 2 == 1) = true := by rw [beq_iff_eq]; omega
            have HB : Hid (crcBit Y = Y / 2 ^^^ 3988292384) := Lib.hid (by unfold crcBit; rw [if_pos ho])
            clear ho
            have hY0 : (0 : Int) ≤ (Y : Int) := by omega
            have HBT := Lib.hid hbt
            generalize Y / 2 ^^^ 3988292384 = Z at *
            clear hbt hcl hx hbg hbl
            go_wp2
            go_round
            case rel => exact ⟨k + 1, by omega, by go_num, by rw [HNX.out, HB.out]⟩
            case measure => simp [intOf]; omega
          · have ha1 : ((Y : Int) % 2 == 1) = false := by rw [beq_eq_false_iff_ne]; omega
            have HB : Hid (crcBit Y = Y / 2) := Lib.hid (by unfold crcBit; rw [if_neg ho])
            have hY0 : (0 : Int) ≤ (Y : Int) := by omega
            clear ho hbt hcl hx hbg hbl
            go_wp2
            go_round
            case rel => exact ⟨k + 1, by omega, by go_num, by rw [hq, HNX.out, HB.out]; simp⟩
            case measure => simp [intOf]; omega
        · obtain rfl : k = 8 := by omega
          clear hcl hx hbg hbl
          go_wp2
          go_round
          case rel => exact ⟨i + 1, by omega, by go_num, by rw [HN.out]⟩
          case measure => simp [intOf]; omega
    · obtain rfl : i = s.size := by omega
      have HC := Lib.hid (crcN_lt s s.size)
      have HS : Hid (crcS s = 4294967295 - crcN s s.size) := Lib.hid rfl
      have hw : wrap64 (4294967295 - ((crcN s s.size : Nat) : Int)) = 4294967295 - ((crcN s s.size : Nat) : Int) := by
        have := HC.out
        unfold wrap64; omega
      go_wp2
      go_ret
      refine ⟨?_, rfl⟩
      rw [HS.out]
      have h4 := HC.out
      generalize crcN s s.size = X at *
      have h5 : ((4294967295 - X : Nat) : Int) = 4294967295 - (X : Int) := by omega
      rw [h5]
      rfl
end Go.Proofs.YtaodldagmmephaaGreat

