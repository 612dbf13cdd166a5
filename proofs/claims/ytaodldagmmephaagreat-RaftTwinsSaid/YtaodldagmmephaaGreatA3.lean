/- Merged texts: LgA LgB LgC Ent EntA LgD LgE EntB LgF EntC. -/
import Derived.Test.YtaodldagmmephaaGreatA1
import Derived.IntWalk
import Derived.Test.YtaodldagmmephaaGreatA2
import Derived.OwnWalk
import Derived.Laws.IdiomStrings
import Derived.Laws.BitsAllLaws
import Derived.Test.YtaodldagmmephaaGreatLayC
import Derived.Shelf.SlicesE.Clone
import Derived.Test.YtaodldagmmephaaGreatShelf
/- rlog: how a log lies; Base, Len, Last, At, Term, Newer. -/
namespace Go.Proofs.YtaodldagmmephaaGreat
open Go.RowKit

/-- An entry. -/
structure En where
  ix : Int
  tm : Int
  kd : Int
  da : ByteArray
instance : Inhabited En := ⟨⟨0, 0, 0, ByteArray.empty⟩⟩
def en0 : En := ⟨0, 0, 0, ⟨#[]⟩⟩
def ecells (e : En) : List Value := [.int .i64 e.ix, .int .i64 e.tm, .int .i64 e.kd, .string e.da]
def env (e : En) : Value := .agg #[.int .i64 e.ix, .int .i64 e.tm, .int .i64 e.kd, .string e.da]
theorem ecells_length (e : En) : (ecells e).length = 4 := rfl
theorem info_en : (Tryz.prog.info? 25).map (fun i => (i.zero, i.size, i.bytes)) = some (some (.agg #[.int .i64 0, .int .i64 0, .int .i64 0, .string ByteArray.empty]), 4, 40) := by kernel_rfl
theorem en_T : RowT Tryz.prog 23 25 ecells 4 40 :=
  RowT.of Tryz.underlying23 info_en rfl (by omega) ecells_length (fun x u hu => by
    simp only [ecells, List.mem_cons, List.not_mem_nil, or_false] at hu
    rcases hu with rfl | rfl | rfl | rfl <;> rfl) (by omega)

/-- The cells of an element that reads. -/
theorem RdG.en {w : World} {B n : Nat} {p : Option Addr} {l : List En} (h : RdG ecells w B p n l) (k : Nat) (hk : k < n) : ∃ b o, p = some ⟨b, o, none⟩ ∧ b < B ∧ w.cell? ⟨b, o + k * 4, none⟩ = some (.int .i64 (HL.el l k).ix) ∧ w.cell? ⟨b, o + k * 4 + 1, none⟩ = some (.int .i64 (HL.el l k).tm) ∧ w.cell? ⟨b, o + k * 4 + 2, none⟩ = some (.int .i64 (HL.el l k).kd) ∧ w.cell? ⟨b, o + k * 4 + 3, none⟩ = some (.string (HL.el l k).da) := by
  obtain ⟨b, o, e, hb, hc⟩ := h.2 (by omega)
  have hl := h.1
  have r : ∀ c v, c < 4 → (ecells (HL.el l k))[c]? = some v → w.cell? ⟨b, o + k * 4 + c, none⟩ = some v := fun c v hc4 hv => by
    have e1 := rowOf_at ecells ecells_length l k c (by omega) hc4
    have e2 := hc (k * 4 + c) v (by rw [e1]; exact hv)
    rw [← Nat.add_assoc] at e2
    exact e2
  exact ⟨b, o, e, hb, r 0 _ (by omega) rfl, r 1 _ (by omega) rfl, r 2 _ (by omega) rfl, r 3 _ (by omega) rfl⟩

/-- A new box of an entry, later on. -/
theorem en_new (w : World) (a1 a2 a3 : Int) (a4 : ByteArray) (V : World) (hV : Below (w.heap.size + 1) (w.alloc (.cells #[.int .i64 a1, .int .i64 a2, .int .i64 a3, .string a4] 25)) V) :
    V.cell? ⟨w.heap.size, 0, none⟩ = some (.int .i64 a1) ∧ V.cell? ⟨w.heap.size, 1, none⟩ = some (.int .i64 a2) ∧ V.cell? ⟨w.heap.size, 2, none⟩ = some (.int .i64 a3) ∧ V.cell? ⟨w.heap.size, 3, none⟩ = some (.string a4) := by
  refine ⟨(hV.cell (p := ⟨w.heap.size, 0, none⟩) (by simp)).trans (by go_simp), (hV.cell (p := ⟨w.heap.size, 1, none⟩) (by simp)).trans (by go_simp), (hV.cell (p := ⟨w.heap.size, 2, none⟩) (by simp)).trans (by go_simp), (hV.cell (p := ⟨w.heap.size, 3, none⟩) (by simp)).trans (by go_simp)⟩

/-- A log. -/
structure Lg (xb base : Nat) (b t : Int) (v : Value) (l : List En) (w : World) : Prop where
  c0 : w.cell? ⟨xb, 0, none⟩ = some (.int .i64 b)
  c1 : w.cell? ⟨xb, 1, none⟩ = some (.int .i64 t)
  c2 : w.cell? ⟨xb, 2, none⟩ = some v
  f0 : w.frozen? ⟨xb, 0, none⟩ = false
  f1 : w.frozen? ⟨xb, 1, none⟩ = false
  f2 : w.frozen? ⟨xb, 2, none⟩ = false
  ow : w.ownsRow base 25 4 v l.length (rowOf ecells l)
  ne : v.ownBlock ≠ some xb
  bs : base ≤ w.heap.size
  bb : base ≤ xb
  lo : 0 ≤ b
  hi : b ≤ 4611686018427387904
  few : l.length ≤ 10000
def lgF (xb : Nat) (v : Value) (k : Nat) : Prop := k = xb ∨ v.ownBlock = some k

section
variable {xb base : Nat} {b t : Int} {v : Value} {l : List En} {w w' : World}
theorem Lg.keep (h : Lg xb base b t v l w) {S : Nat → Prop} (hF : Fr S w w') (hS : ∀ k, lgF xb v k → ¬ S k) : Lg xb base b t v l w' := by
  have hlt : xb < w.heap.size := cell_lt h.c0
  have h1 : ¬ S xb := hS xb (.inl rfl)
  have hc : ∀ o, w'.cell? ⟨xb, o, none⟩ = w.cell? ⟨xb, o, none⟩ := fun o => hF.cell (p := ⟨xb, o, none⟩) hlt h1
  have hf : ∀ o, w'.frozen? ⟨xb, o, none⟩ = w.frozen? ⟨xb, o, none⟩ := fun o => hF.frozen (p := ⟨xb, o, none⟩) hlt h1
  exact ⟨(hc 0).trans h.c0, (hc 1).trans h.c1, (hc 2).trans h.c2, (hf 0).trans h.f0, (hf 1).trans h.f1, (hf 2).trans h.f2, hF.owns h.ow (fun g hg => hS g (.inr hg)), h.ne, Nat.le_trans h.bs hF.size, h.bb, h.lo, h.hi, h.few⟩
theorem Lg.below (h : Lg xb base b t v l w) (hb : Below w.heap.size w w') : Lg xb base b t v l w' := h.keep (S := fun _ => False) (Fr.of_all hb) (fun _ _ h => h)
theorem Lg.lt (h : Lg xb base b t v l w) : ∀ k, lgF xb v k → base ≤ k ∧ k < w.heap.size := by
  rintro k (rfl | e)
  · exact ⟨h.bb, cell_lt h.c0⟩
  · exact h.ow.lt k e
theorem Lg.rd (h : Lg xb base b t v l w) : ∃ p c, v = .slice p l.length c ∧ RdG ecells w w.heap.size p l.length l ∧ (p = none → c = 0) := by
  obtain ⟨p, c, hv⟩ := owns_slice h.ow
  refine ⟨p, c, hv, RdG.of_own (f := ecells) (by rw [← hv]; exact h.ow) rfl, fun e => ?_⟩
  rcases h.ow.2 with ⟨h1, _⟩ | ⟨_, _, _, h1, _⟩
  · rw [hv] at h1
    injection h1
  · rw [hv] at h1
    injection h1 with h1 _ _
    rw [h1] at e
    cases e
end

/-- The last index and its term. -/
def lastS (b t : Int) (l : List En) : Int × Int := if l.length = 0 then (b, t) else ((HL.el l (l.length - 1)).ix, (HL.el l (l.length - 1)).tm)
/-- An entry by its index. -/
def atS (b : Int) (l : List En) (i : Int) : Option En := if i ≤ b ∨ (l.length : Int) < i - b then none else some (HL.el l (i - b - 1).toNat)
def termS (b t : Int) (l : List En) (i : Int) : Option Int := if i = b then some t else (atS b l i).map (·.tm)
def newerS (b t : Int) (l : List En) (i tm : Int) : Bool := decide ((lastS b t l).2 < tm) || decide (tm = (lastS b t l).2) && decide ((lastS b t l).1 ≤ i)

section
variable {xb base : Nat} {b t : Int} {v : Value} {l : List En} {w : World}

set_option maxRecDepth 100000 in
theorem lg_base (h : Lg xb base b t v l w) : Calls Tryz.prog 90 #[.pointer (some ⟨xb, 0, none⟩)] w fun e w' => e = .returned (.tuple #[.int .i64 b, .int .i64 t]) ∧ Below w.heap.size w w' := by
  have q0 : ∀ q : Later w, q.1.cell? ⟨xb, 0, none⟩ = some (.int .i64 b) := fun q => (h.below q.2).c0
  have q1 : ∀ q : Later w, q.1.cell? ⟨xb, 1, none⟩ = some (.int .i64 t) := fun q => (h.below q.2).c1
  clear h
  go_enter Tryz.func90, Tryz.ntmps90
  go_wp2_with fail
  refine wp_region_later (by kernel_rfl) (by kernel_rfl) ?_
  repeat (go_big_quiet_step (fail))
  refine wpQuiet_nil ?_
  intro w3 hw'
  obtain ⟨⟨wq, hq⟩, hw''⟩ := hw'
  have hw3 : w3 = wq := hw''
  clear hw''
  subst hw3
  clear q0 q1
  go_wp2
  go_ret2
  exact ⟨rfl, hq⟩

set_option maxRecDepth 100000 in
theorem lg_len (h : Lg xb base b t v l w) : Calls Tryz.prog 61 #[.pointer (some ⟨xb, 0, none⟩)] w fun e w' => e = .returned (.int .i64 l.length) ∧ w' = w := by
  obtain ⟨p, c, hv, _, _⟩ := h.rd
  have c2 := h.c2
  rw [hv] at c2
  clear h hv
  go_enter Tryz.func61, Tryz.ntmps61
  go_wp2
  go_ret
  exact ⟨rfl, rfl⟩

set_option maxHeartbeats 1000000 in
set_option maxRecDepth 100000 in
theorem lg_last (h : Lg xb base b t v l w) : Calls Tryz.prog 44 #[.pointer (some ⟨xb, 0, none⟩)] w fun e w' => e = .returned (.tuple #[.int .i64 (lastS b t l).1, .int .i64 (lastS b t l).2]) ∧ Below w.heap.size w w' := by
  have HLN := Lib.hid (lg_len h)
  have HB := Lib.hid (lg_base h)
  unfold lastS
  by_cases h0 : l.length = 0
  · rw [if_pos h0]
    rw [h0] at HLN
    clear h h0
    go_enter Tryz.func44, Tryz.ntmps44
    go_wp2_with fail
    with_reducible refine HLN.out.mono ?_
    rintro e w1 ⟨rfl, hw1⟩
    subst hw1
    go_wp2_with fail
    with_reducible refine HB.out.mono ?_
    rintro e w1 ⟨rfl, hb1⟩
    have HB1 := Lib.hid hb1
    clear hb1
    go_wp2
    go_ret2
    exact ⟨rfl, HB1.out⟩
  · rw [if_neg h0]
    obtain ⟨p, c, hv, hrd, _⟩ := h.rd
    have H := Lib.hid h
    have hn0 : 0 < l.length := by omega
    have hfew := h.few
    obtain ⟨g, o, hp, hg, x0, x1, x2, x3⟩ := hrd.en (l.length - 1) (by omega)
    have hnb : ((l.length : Int) == 0) = false := by rw [beq_eq_false_iff_ne]; omega
    have hsub : (l.length : Int) - 1 = ((l.length - 1 : Nat) : Int) := by omega
    have c2 := h.c2
    rw [hv, hp] at c2
    clear h hrd hv hp
    generalize HL.el l (l.length - 1) = x at *
    obtain ⟨a1, a2, a3, a4⟩ := x
    simp only at x0 x1 x2 x3
    obtain ⟨k, hk⟩ : ∃ k, l.length = k + 1 := ⟨l.length - 1, by omega⟩
    rw [hk] at HLN c2 hnb hsub x0 x1 x2 x3
    simp only [Nat.add_sub_cancel] at x0 x1 x2 x3
    have hkb : k ≤ 10000 := by omega
    clear hk h0 hn0 hsub hfew
    go_enter Tryz.func44, Tryz.ntmps44
    go_wp2_with fail
    with_reducible refine HLN.out.mono ?_
    rintro e w1 ⟨rfl, hw1⟩
    subst hw1
    have hwk : IntKind.i64.wrap (k : Int) = (k : Int) := IntWalk.i64_in _ (by omega)
    have hk0 : (0 : Int) ≤ (k : Int) := by omega
    have HBd : Hid (Below w1.heap.size w1 w1.drew) := Lib.hid (((Fr.refl (fun _ => False) w1).drew).below (Nat.le_refl _) (fun _ h => h.elim))
    have c2l : xb < w1.heap.size := cell_lt c2
    have y2 : ∀ q : Later w1, q.1.cell? ⟨xb, 2, none⟩ = some (.slice (some ⟨g, o, none⟩) (k + 1) c) := fun q => (q.2.cell (p := ⟨xb, 2, none⟩) c2l).trans c2
    have z0 : ∀ q : Later w1, q.1.cell? ⟨g, o + k * 4, none⟩ = some (.int .i64 a1) := fun q => (q.2.cell (p := ⟨g, o + k * 4, none⟩) hg).trans x0
    have z1 : ∀ q : Later w1, q.1.cell? ⟨g, o + k * 4 + 1, none⟩ = some (.int .i64 a2) := fun q => (q.2.cell (p := ⟨g, o + k * 4 + 1, none⟩) hg).trans x1
    have z2 : ∀ q : Later w1, q.1.cell? ⟨g, o + k * 4 + 2, none⟩ = some (.int .i64 a3) := fun q => (q.2.cell (p := ⟨g, o + k * 4 + 2, none⟩) hg).trans x2
    have z3 : ∀ q : Later w1, q.1.cell? ⟨g, o + k * 4 + 3, none⟩ = some (.string a4) := fun q => (q.2.cell (p := ⟨g, o + k * 4 + 3, none⟩) hg).trans x3
    clear x0 x1 x2 x3 c2 c2l
    go_wp2_with fail
    refine Mix.region_mix (n := 13) (m := 2) (fun V => ∃ q : Later w1, V = q.1) [0, 1, 2, 3, 4, 5, 6, 7, 8, 9, 10, 11] (by kernel_rfl) rfl rfl (by kernel_rfl) (by kernel_rfl) ⟨⟨w1.drew, HBd.out⟩, rfl⟩ ?_
    repeat (refine Mix.picks_step rfl ?_; go_big_quiet_step (fail))
    refine Mix.picks_nil ?_
    intro inv
    refine sink_one (i := 12) (by kernel_rfl) rfl (by omega) inv (fun K hK => ?_)
    have HKK := Lib.hid hK
    clear hK
    go_simp
    have HW2 : Hid (∀ x, Below w1.heap.size w1 (w1.drew.alloc x)) := Lib.hid (fun x => HBd.out.alloc (Nat.le_refl _) x)
    refine HKK.out _ _ ⟨⟨_, HW2.out _⟩, rfl⟩ ?_
    clear HKK inv
    intro hS inv
    (try simp only [Act.put]); (try simp only [List.setIfInBounds_toArray]); (try simp only [List.set_cons_succ]); (try simp only [List.set_cons_zero])
    refine sink_last (by kernel_rfl) rfl (by kernel_rfl) (fun K hK => ?_)
    have HKK := Lib.hid hK
    clear hK
    go_simp
    refine HKK.out _ _ ⟨rfl, ?_⟩
    clear HKK inv hS y2 z0 z1 z2 z3 hwk
    have hW3 : Below w1.heap.size w1 ((w1.alloc (.cells #[.int .i64 a1, .int .i64 a2, .int .i64 a3, .string a4] 25)).drew) := ((Below.refl _ w1).alloc (Nat.le_refl _) _).drew
    have HEN : Hid (∀ V, Below (w1.alloc (.cells #[.int .i64 a1, .int .i64 a2, .int .i64 a3, .string a4] 25)).drew.heap.size (w1.alloc (.cells #[.int .i64 a1, .int .i64 a2, .int .i64 a3, .string a4] 25)).drew V → V.cell? ⟨w1.heap.size, 0, none⟩ = some (.int .i64 a1) ∧ V.cell? ⟨w1.heap.size, 1, none⟩ = some (.int .i64 a2)) := Lib.hid (fun V hV => by
      have h := en_new w1 a1 a2 a3 a4 V ((((Below.refl _ _).drew).trans (hV.mono (by simp))))
      exact ⟨h.1, h.2.1⟩)
    generalize (w1.alloc (.cells #[.int .i64 a1, .int .i64 a2, .int .i64 a3, .string a4] 25)).drew = W3 at *
    have HW3 := Lib.hid hW3
    have r0 : ∀ q : Later W3, q.1.cell? ⟨w1.heap.size, 0, none⟩ = some (.int .i64 a1) := fun q => (HEN.out _ q.2).1
    have r1 : ∀ q : Later W3, q.1.cell? ⟨w1.heap.size, 1, none⟩ = some (.int .i64 a2) := fun q => (HEN.out _ q.2).2
    clear hW3 HW2 HBd
    go_wp2_with fail
    refine wp_region_later (by kernel_rfl) (by kernel_rfl) ?_
    repeat (go_big_quiet_step (fail))
    refine wpQuiet_nil ?_
    intro w4 hw'
    obtain ⟨⟨wq, hq⟩, hw''⟩ := hw'
    have hw4 : w4 = wq := hw''
    clear hw''
    subst hw4
    have HQ : Hid (Below w1.heap.size w1 w4) := Lib.hid (HW3.out.trans (hq.mono HW3.out.size))
    clear r0 r1 hq
    go_wp2
    go_ret2
    exact ⟨rfl, HQ.out⟩
end
end Go.Proofs.YtaodldagmmephaaGreat

/- rlog: At, Term, Newer. -/
namespace Go.Proofs.YtaodldagmmephaaGreat
open Go.RowKit

def atV : Option En → Value
  | some x => .tuple #[env x, .bool true]
  | none => .tuple #[env en0, .bool false]

theorem cells4m {w : World} {b : Nat} {u0 u1 u2 u3 v0 v1 v2 v3 : Value} (d0 : w.cell? ⟨b, 0, none⟩ = some u0) (d1 : w.cell? ⟨b, 1, none⟩ = some u1) (d2 : w.cell? ⟨b, 2, none⟩ = some u2) (d3 : w.cell? ⟨b, 3, none⟩ = some u3) :
    ((((w.setCell ⟨b, 0, none⟩ v0).setCell ⟨b, 1, none⟩ v1).setCell ⟨b, 2, none⟩ v2).setCell ⟨b, 3, none⟩ v3).cell? ⟨b, 0, none⟩ = some v0 ∧ ((((w.setCell ⟨b, 0, none⟩ v0).setCell ⟨b, 1, none⟩ v1).setCell ⟨b, 2, none⟩ v2).setCell ⟨b, 3, none⟩ v3).cell? ⟨b, 1, none⟩ = some v1 ∧
      ((((w.setCell ⟨b, 0, none⟩ v0).setCell ⟨b, 1, none⟩ v1).setCell ⟨b, 2, none⟩ v2).setCell ⟨b, 3, none⟩ v3).cell? ⟨b, 2, none⟩ = some v2 ∧ ((((w.setCell ⟨b, 0, none⟩ v0).setCell ⟨b, 1, none⟩ v1).setCell ⟨b, 2, none⟩ v2).setCell ⟨b, 3, none⟩ v3).cell? ⟨b, 3, none⟩ = some v3 := by
  have ne : ∀ (w : World) (i j : Nat) (v : Value), i ≠ j → (w.setCell ⟨b, i, none⟩ v).cell? ⟨b, j, none⟩ = w.cell? ⟨b, j, none⟩ := fun w i j v h => World.cell?_setCell_other _ _ _ _ (by intro e; injection e with _ e _; omega)
  refine ⟨?_, ?_, ?_, ?_⟩
  · rw [ne _ 3 0 _ (by omega), ne _ 2 0 _ (by omega), ne _ 1 0 _ (by omega)]; exact cell_set_same _ _ _ _ d0
  · rw [ne _ 3 1 _ (by omega), ne _ 2 1 _ (by omega)]; exact cell_set_same _ _ _ u1 (by rw [ne _ 0 1 _ (by omega)]; exact d1)
  · rw [ne _ 3 2 _ (by omega)]; exact cell_set_same _ _ _ u2 (by rw [ne _ 1 2 _ (by omega), ne _ 0 2 _ (by omega)]; exact d2)
  · exact cell_set_same _ _ _ u3 (by rw [ne _ 2 3 _ (by omega), ne _ 1 3 _ (by omega), ne _ 0 3 _ (by omega)]; exact d3)

/-- A box that holds an entry. -/
structure EnB (B : Nat) (x : En) (w : World) : Prop where
  c0 : w.cell? ⟨B, 0, none⟩ = some (.int .i64 x.ix)
  c1 : w.cell? ⟨B, 1, none⟩ = some (.int .i64 x.tm)
  c2 : w.cell? ⟨B, 2, none⟩ = some (.int .i64 x.kd)
  c3 : w.cell? ⟨B, 3, none⟩ = some (.string x.da)
  f0 : w.frozen? ⟨B, 0, none⟩ = false
  f1 : w.frozen? ⟨B, 1, none⟩ = false
  f2 : w.frozen? ⟨B, 2, none⟩ = false
  f3 : w.frozen? ⟨B, 3, none⟩ = false
theorem EnB.keep {B : Nat} {x : En} {w w' : World} {T : Nat → Prop} (h : EnB B x w) (hF : Fr T w w') (hT : ¬ T B) : EnB B x w' := by
  have hlt : B < w.heap.size := cell_lt h.c0
  have hc : ∀ o, w'.cell? ⟨B, o, none⟩ = w.cell? ⟨B, o, none⟩ := fun o => hF.cell (p := ⟨B, o, none⟩) hlt hT
  have hf : ∀ o, w'.frozen? ⟨B, o, none⟩ = w.frozen? ⟨B, o, none⟩ := fun o => hF.frozen (p := ⟨B, o, none⟩) hlt hT
  exact ⟨(hc 0).trans h.c0, (hc 1).trans h.c1, (hc 2).trans h.c2, (hc 3).trans h.c3, (hf 0).trans h.f0, (hf 1).trans h.f1, (hf 2).trans h.f2, (hf 3).trans h.f3⟩
theorem EnB.below {B : Nat} {x : En} {w w' : World} (h : EnB B x w) (hb : Below w.heap.size w w') : EnB B x w' := h.keep (Fr.of_all (S := fun _ => False) hb) (fun h => h)
theorem EnB.fresh (w : World) (x : En) : EnB w.heap.size x (w.alloc (.cells #[.int .i64 x.ix, .int .i64 x.tm, .int .i64 x.kd, .string x.da] 25)) := by
  have hc := heap_alloc_new w (.cells #[.int .i64 x.ix, .int .i64 x.tm, .int .i64 x.kd, .string x.da] 25)
  have cc : ∀ k v, (#[Value.int .i64 x.ix, .int .i64 x.tm, .int .i64 x.kd, .string x.da])[k]? = some v → (w.alloc (.cells #[.int .i64 x.ix, .int .i64 x.tm, .int .i64 x.kd, .string x.da] 25)).cell? ⟨w.heap.size, k, none⟩ = some v := fun k v hv => by
    rw [cell_of_row _ _ _ _ _ _ hc]; exact hv
  exact ⟨cc 0 _ rfl, cc 1 _ rfl, cc 2 _ rfl, cc 3 _ rfl, frozen_of_row _ _ _ _ _ hc, frozen_of_row _ _ _ _ _ hc, frozen_of_row _ _ _ _ _ hc, frozen_of_row _ _ _ _ _ hc⟩
theorem set4_below {B : Nat} {w w' : World} (hb : Below B w w') (b : Nat) (hB : B ≤ b) (v0 v1 v2 v3 : Value) : Below B w ((((w'.setCell ⟨b, 0, none⟩ v0).setCell ⟨b, 1, none⟩ v1).setCell ⟨b, 2, none⟩ v2).setCell ⟨b, 3, none⟩ v3) :=
  (((hb.setCell (p := ⟨b, 0, none⟩) hB _).setCell (p := ⟨b, 1, none⟩) hB _).setCell (p := ⟨b, 2, none⟩) hB _).setCell (p := ⟨b, 3, none⟩) hB _

section
variable {xb base : Nat} {b t : Int} {v : Value} {l : List En} {w : World}

set_option maxHeartbeats 1000000 in
set_option maxRecDepth 100000 in
theorem lg_at (i : Int) (h : Lg xb base b t v l w) (hi : i ≤ 9223372036854775807) : Calls Tryz.prog 47 #[.pointer (some ⟨xb, 0, none⟩), .int .i64 i] w fun e w' => e = .returned (atV (atS b l i)) ∧ Below w.heap.size w w' := by
  obtain ⟨p, c, hv, hrd, hnil⟩ := h.rd
  have hlo := h.lo
  have hhi := h.hi
  have hfew := h.few
  have hxb : xb < w.heap.size := cell_lt h.c0
  have c0 := h.c0
  have c2 := h.c2
  rw [hv] at c2
  have HB0 : Hid (Below w.heap.size w (w.alloc (.cells #[.int .i64 0, .int .i64 0, .int .i64 0, .string ByteArray.empty] 25))) := Lib.hid ((Below.refl _ w).alloc (Nat.le_refl _) _)
  have HRD := Lib.hid hrd
  have HC0 := Lib.hid c0
  have HC2 := Lib.hid c2
  have HE0 : Hid (EnB w.heap.size en0 (w.alloc (.cells #[.int .i64 0, .int .i64 0, .int .i64 0, .string ByteArray.empty] 25))) := Lib.hid (EnB.fresh w en0)
  have q0 : ∀ q : Later (w.alloc (.cells #[.int .i64 0, .int .i64 0, .int .i64 0, .string ByteArray.empty] 25)), q.1.cell? ⟨xb, 0, none⟩ = some (.int .i64 b) := fun q => ((HB0.out.trans (q.2.mono (by simp))).cell (p := ⟨xb, 0, none⟩) hxb).trans c0
  have q2 : ∀ q : Later (w.alloc (.cells #[.int .i64 0, .int .i64 0, .int .i64 0, .string ByteArray.empty] 25)), q.1.cell? ⟨xb, 2, none⟩ = some (.slice p l.length c) := fun q => ((HB0.out.trans (q.2.mono (by simp))).cell (p := ⟨xb, 2, none⟩) hxb).trans c2
  clear h hv hrd hnil c0 c2
  unfold atS
  by_cases h1 : i ≤ b
  · rw [if_pos (.inl h1)]
    have hd : decide (i ≤ b) = true := decide_eq_true h1
    go_enter Tryz.func47, Tryz.ntmps47
    go_wp2_with fail
    refine wp_region_later (by kernel_rfl) (by kernel_rfl) ?_
    repeat (go_big_quiet_step (fail))
    refine wpQuiet_nil ?_
    intro w3 hw'
    obtain ⟨⟨wq, hq3⟩, hw''⟩ := hw'
    have hw3 : w3 = wq := hw''
    clear hw''
    subst hw3
    have he3 := HE0.out.below hq3
    have HB3 : Hid (Below w.heap.size w w3) := Lib.hid (HB0.out.trans (hq3.mono (by simp)))
    obtain ⟨f0, f1, f2, f3, g0, g1, g2, g3⟩ := he3
    have f0 : w3.cell? ⟨w.heap.size, 0, none⟩ = some (.int .i64 0) := f0
    have f1 : w3.cell? ⟨w.heap.size, 1, none⟩ = some (.int .i64 0) := f1
    have f2 : w3.cell? ⟨w.heap.size, 2, none⟩ = some (.int .i64 0) := f2
    have f3 : w3.cell? ⟨w.heap.size, 3, none⟩ = some (.string ⟨#[]⟩) := f3
    obtain ⟨x0, x1, x2, x3⟩ := cells4m (v0 := .int .i64 0) (v1 := .int .i64 0) (v2 := .int .i64 0) (v3 := .string ⟨#[]⟩) f0 f1 f2 f3
    clear q0 q2 hd hq3
    go_wp2
    exact bodyPost_ret (v := .tuple #[env en0, .bool false]) (by simp [results, Tryz.results47, go_sem, env, en0, x0, x1, x2, x3]) rfl ⟨rfl, set4_below HB3.out _ (Nat.le_refl _) _ _ _ _⟩
  · have hd : decide (i ≤ b) = false := decide_eq_false h1
    obtain ⟨k, hk⟩ : ∃ k : Nat, i - b = (k : Int) + 1 := ⟨(i - b - 1).toNat, by omega⟩
    have hw1 : IntKind.i64.wrap (i - b) = (k : Int) + 1 := by rw [← hk]; exact IntWalk.i64_in _ (by omega)
    by_cases h2 : l.length ≤ k
    · rw [if_pos (.inr (by omega))]
      have hd2 : decide (l.length ≤ k) = true := decide_eq_true h2
      have hd3 : decide ((l.length : Int) < (k : Int) + 1) = true := decide_eq_true (by omega)
      clear hk
      go_enter Tryz.func47, Tryz.ntmps47
      go_wp2_with fail
      refine wp_region_later (by kernel_rfl) (by kernel_rfl) ?_
      repeat (go_big_quiet_step (fail))
      refine wpQuiet_nil ?_
      intro w3 hw'
      obtain ⟨⟨wq, hq3⟩, hw''⟩ := hw'
      have hw3 : w3 = wq := hw''
      clear hw''
      subst hw3
      have he3 := HE0.out.below hq3
      have HB3 : Hid (Below w.heap.size w w3) := Lib.hid (HB0.out.trans (hq3.mono (by simp)))
      obtain ⟨f0, f1, f2, f3, g0, g1, g2, g3⟩ := he3
      have f0 : w3.cell? ⟨w.heap.size, 0, none⟩ = some (.int .i64 0) := f0
      have f1 : w3.cell? ⟨w.heap.size, 1, none⟩ = some (.int .i64 0) := f1
      have f2 : w3.cell? ⟨w.heap.size, 2, none⟩ = some (.int .i64 0) := f2
      have f3 : w3.cell? ⟨w.heap.size, 3, none⟩ = some (.string ⟨#[]⟩) := f3
      obtain ⟨x0, x1, x2, x3⟩ := cells4m (v0 := .int .i64 0) (v1 := .int .i64 0) (v2 := .int .i64 0) (v3 := .string ⟨#[]⟩) f0 f1 f2 f3
      clear q0 q2 hd hd2 hd3 hw1 hq3
      go_wp2
      exact bodyPost_ret (v := .tuple #[env en0, .bool false]) (by simp [results, Tryz.results47, go_sem, env, en0, x0, x1, x2, x3]) rfl ⟨rfl, set4_below HB3.out _ (Nat.le_refl _) _ _ _ _⟩
    · rw [if_neg (by omega)]
      have hd2 : decide (l.length ≤ k) = false := decide_eq_false h2
      have hd3 : decide ((l.length : Int) < (k : Int) + 1) = false := decide_eq_false (by omega)
      have hki : (i - b - 1).toNat = k := by omega
      rw [hki]
      clear hk hki
      obtain ⟨g, o, hp, hg, x0, x1, x2, x3⟩ := HRD.out.en k (by omega)
      subst hp
      generalize HL.el l k = x at *
      obtain ⟨a1, a2, a3, a4⟩ := x
      simp only at x0 x1 x2 x3
      have HX := Lib.hid (And.intro x0 (And.intro x1 (And.intro x2 x3)))
      clear x0 x1 x2 x3
      go_enter Tryz.func47, Tryz.ntmps47
      go_wp2_with fail
      refine wp_region_later (by kernel_rfl) (by kernel_rfl) ?_
      repeat (go_big_quiet_step (fail))
      refine wpQuiet_nil ?_
      intro w3 hw'
      obtain ⟨⟨wq, hq3⟩, hw''⟩ := hw'
      have hw3 : w3 = wq := hw''
      clear hw''
      subst hw3
      have HX3 : Hid (EnB w.heap.size en0 w3) := Lib.hid (HE0.out.below hq3)
      have HB3 : Hid (Below w.heap.size w w3) := Lib.hid (HB0.out.trans (hq3.mono (by simp)))
      obtain ⟨x0, x1, x2, x3⟩ := HX.out
      have hkb : k ≤ 10000 := by omega
      have hwk : IntKind.i64.wrap (k : Int) = (k : Int) := IntWalk.i64_in _ (by omega)
      have hk0 : (0 : Int) ≤ (k : Int) := by omega
      have hkl : (k : Int) < (l.length : Int) := by omega
      have r0 : ∀ q : Later w, q.1.cell? ⟨xb, 0, none⟩ = some (.int .i64 b) := fun q => (q.2.cell (p := ⟨xb, 0, none⟩) hxb).trans HC0.out
      have r2 : ∀ q : Later w, q.1.cell? ⟨xb, 2, none⟩ = some (.slice (some ⟨g, o, none⟩) l.length c) := fun q => (q.2.cell (p := ⟨xb, 2, none⟩) hxb).trans HC2.out
      have z0 : ∀ q : Later w, q.1.cell? ⟨g, o + k * 4, none⟩ = some (.int .i64 a1) := fun q => (q.2.cell (p := ⟨g, o + k * 4, none⟩) hg).trans x0
      have z1 : ∀ q : Later w, q.1.cell? ⟨g, o + k * 4 + 1, none⟩ = some (.int .i64 a2) := fun q => (q.2.cell (p := ⟨g, o + k * 4 + 1, none⟩) hg).trans x1
      have z2 : ∀ q : Later w, q.1.cell? ⟨g, o + k * 4 + 2, none⟩ = some (.int .i64 a3) := fun q => (q.2.cell (p := ⟨g, o + k * 4 + 2, none⟩) hg).trans x2
      have z3 : ∀ q : Later w, q.1.cell? ⟨g, o + k * 4 + 3, none⟩ = some (.string a4) := fun q => (q.2.cell (p := ⟨g, o + k * 4 + 3, none⟩) hg).trans x3
      have HBd : Hid (Below w.heap.size w w3.drew) := Lib.hid HB3.out.drew
      clear q0 q2 hq3 x0 x1 x2 x3
      go_wp2_with fail
      refine Mix.region_mix (n := 14) (m := 2) (fun V => ∃ q : Later w, V = q.1) [0, 1, 2, 3, 4, 5, 6, 7, 8, 9, 10, 11, 12] (by kernel_rfl) rfl rfl (by kernel_rfl) (by kernel_rfl) ⟨⟨w3.drew, HBd.out⟩, rfl⟩ ?_
      repeat (refine Mix.picks_step rfl ?_; go_big_quiet_step (fail))
      refine Mix.picks_nil ?_
      intro inv
      obtain ⟨f0, f1, f2, f3, g0, g1, g2, g3⟩ := HX3.out
      have f0 : w3.cell? ⟨w.heap.size, 0, none⟩ = some (.int .i64 0) := f0
      have f1 : w3.cell? ⟨w.heap.size, 1, none⟩ = some (.int .i64 0) := f1
      have f2 : w3.cell? ⟨w.heap.size, 2, none⟩ = some (.int .i64 0) := f2
      have f3 : w3.cell? ⟨w.heap.size, 3, none⟩ = some (.string ⟨#[]⟩) := f3
      obtain ⟨x0, x1, x2, x3⟩ := cells4m (v0 := .int .i64 a1) (v1 := .int .i64 a2) (v2 := .int .i64 a3) (v3 := .string a4) f0 f1 f2 f3
      have HST : Hid (Below w.heap.size w ((((w3.setCell ⟨w.heap.size, 0, none⟩ (.int .i64 a1)).setCell ⟨w.heap.size, 1, none⟩ (.int .i64 a2)).setCell ⟨w.heap.size, 2, none⟩ (.int .i64 a3)).setCell ⟨w.heap.size, 3, none⟩ (.string a4)).drew) := Lib.hid (set4_below HB3.out _ (Nat.le_refl _) _ _ _ _).drew
      refine sink_one (i := 13) (by kernel_rfl) rfl (by omega) inv (fun K hK => ?_)
      have HKK := Lib.hid hK
      clear hK
      go_simp
      refine HKK.out _ _ ⟨⟨_, HST.out⟩, rfl⟩ ?_
      clear HKK inv
      intro hS inv
      (try simp only [Act.put]); (try simp only [List.setIfInBounds_toArray]); (try simp only [List.set_cons_succ]); (try simp only [List.set_cons_zero])
      refine sink_last (by kernel_rfl) rfl (by kernel_rfl) (fun K hK => ?_)
      have HKK := Lib.hid hK
      clear hK
      go_simp
      refine HKK.out _ _ ⟨rfl, ?_⟩
      clear HKK inv hS r0 r2 z0 z1 z2 z3 hwk hw1 hd hd2 hd3
      go_wp2
      exact bodyPost_ret (v := .tuple #[env ⟨a1, a2, a3, a4⟩, .bool true]) (by simp [results, Tryz.results47, go_sem, env, x0, x1, x2, x3]) rfl ⟨rfl, HST.out⟩
end
end Go.Proofs.YtaodldagmmephaaGreat

/- rlog: Term, Newer, Reset. -/
namespace Go.Proofs.YtaodldagmmephaaGreat
open Go.RowKit

def termV : Option Int → Value
  | some x => .tuple #[.int .i64 x, .bool true]
  | none => .tuple #[.int .i64 0, .bool false]
theorem atV_form (o : Option En) : atV o = .tuple #[env (o.getD en0), .bool o.isSome] := by
  cases o <;> rfl
theorem termV_form (o : Option En) : termV (o.map (·.tm)) = .tuple #[.int .i64 (o.getD en0).tm, .bool o.isSome] := by
  cases o <;> rfl

section
variable {xb base : Nat} {b t : Int} {v : Value} {l : List En} {w : World}

set_option maxHeartbeats 1000000 in
set_option maxRecDepth 100000 in
theorem lg_term (i : Int) (h : Lg xb base b t v l w) (hi : i ≤ 9223372036854775807) : Calls Tryz.prog 91 #[.pointer (some ⟨xb, 0, none⟩), .int .i64 i] w fun e w' => e = .returned (termV (termS b t l i)) ∧ Below w.heap.size w w' := by
  have HA := Lib.hid (lg_at i h hi)
  rw [atV_form] at HA
  have c0 := h.c0
  have c1 := h.c1
  unfold termS
  by_cases hib : i = b
  · rw [if_pos hib]
    subst hib
    clear h HA
    go_enter Tryz.func91, Tryz.ntmps91
    go_wp2
    go_ret2
    exact ⟨rfl, Below.refl _ _⟩
  · rw [if_neg hib, termV_form]
    have hb : (i == b) = false := by rw [beq_eq_false_iff_ne]; exact hib
    generalize atS b l i = o at *
    generalize hx : o.getD en0 = x at *
    generalize o.isSome = s at *
    obtain ⟨a1, a2, a3, a4⟩ := x
    clear h hib hx
    unfold env at HA
    simp only at HA
    go_enter Tryz.func91, Tryz.ntmps91
    go_wp2_with fail
    with_reducible refine HA.out.mono ?_
    rintro e w1 ⟨rfl, hb1⟩
    have HB1 := Lib.hid hb1
    clear hb1
    go_wp2
    go_ret2
    exact ⟨rfl, HB1.out.alloc HB1.out.size _⟩

set_option maxHeartbeats 1000000 in
set_option maxRecDepth 100000 in
theorem lg_newer (i tm : Int) (h : Lg xb base b t v l w) : Calls Tryz.prog 96 #[.pointer (some ⟨xb, 0, none⟩), .int .i64 i, .int .i64 tm] w fun e w' => e = .returned (.bool (newerS b t l i tm)) ∧ Below w.heap.size w w' := by
  have HL := Lib.hid (lg_last h)
  unfold newerS
  generalize lastS b t l = x at *
  obtain ⟨x1, x2⟩ := x
  simp only at HL
  simp only
  clear h
  by_cases h1 : x2 < tm
  · have hd : decide (x2 < tm) = true := decide_eq_true h1
    rw [hd, Bool.true_or]
    go_enter Tryz.func96, Tryz.ntmps96
    go_wp2_with fail
    with_reducible refine HL.out.mono ?_
    rintro e w1 ⟨rfl, hb1⟩
    have HB1 := Lib.hid hb1
    clear hb1
    go_wp2
    go_ret
    exact ⟨rfl, HB1.out⟩
  · have hd : decide (x2 < tm) = false := decide_eq_false h1
    rw [hd, Bool.false_or]
    by_cases h2 : tm = x2
    · have hd2 : (tm == x2) = true := by rw [h2]; simp
      rw [show decide (tm = x2) = true from decide_eq_true h2, Bool.true_and]
      by_cases h3 : x1 ≤ i
      · have hd3 : decide (x1 ≤ i) = true := decide_eq_true h3
        rw [hd3]
        clear h2 h3
        go_enter Tryz.func96, Tryz.ntmps96
        go_wp2_with fail
        with_reducible refine HL.out.mono ?_
        rintro e w1 ⟨rfl, hb1⟩
        have HB1 := Lib.hid hb1
        clear hb1
        go_wp2
        go_ret
        exact ⟨rfl, HB1.out⟩
      · have hd3 : decide (x1 ≤ i) = false := decide_eq_false h3
        rw [hd3]
        clear h2 h3
        go_enter Tryz.func96, Tryz.ntmps96
        go_wp2_with fail
        with_reducible refine HL.out.mono ?_
        rintro e w1 ⟨rfl, hb1⟩
        have HB1 := Lib.hid hb1
        clear hb1
        go_wp2
        go_ret
        exact ⟨rfl, HB1.out⟩
    · have hd2 : (tm == x2) = false := by rw [beq_eq_false_iff_ne]; exact h2
      rw [show decide (tm = x2) = false from decide_eq_false h2, Bool.false_and]
      clear h2
      go_enter Tryz.func96, Tryz.ntmps96
      go_wp2_with fail
      with_reducible refine HL.out.mono ?_
      rintro e w1 ⟨rfl, hb1⟩
      have HB1 := Lib.hid hb1
      clear hb1
      go_wp2
      go_ret
      exact ⟨rfl, HB1.out⟩
end
end Go.Proofs.YtaodldagmmephaaGreat

/- ent, num: numbers and members as bytes, plain. -/
namespace Go.Proofs.YtaodldagmmephaaGreat
open Go.RowKit

/-- Read a number's groups: the place, what is read so far. -/
def numGo : List UInt8 → Nat → Nat → Option (Nat × List UInt8)
  | [], _, _ => none
  | c :: r, i, n =>
    if i = 9 ∧ 1 < c.toNat then none
    else if 128 ≤ c.toNat then numGo r (i + 1) (n + c.toNat % 128 * 2 ^ (7 * i))
    else if c.toNat = 0 ∧ 0 < i then none
    else some (n + c.toNat % 128 * 2 ^ (7 * i), r)
def unzig (n : Nat) : Int := if n % 2 = 0 then ((n / 2 : Nat) : Int) else -((n / 2 : Nat) : Int) - 1
def numb (l : List UInt8) : Option (Int × List UInt8) := (numGo l 0 0).map fun x => (unzig x.1, x.2)
def numsB : Nat → List UInt8 → Option (List Int × List UInt8)
  | 0, l => some ([], l)
  | k + 1, l => (numb l).bind fun x => (numsB k x.2).map fun y => (x.1 :: y.1, y.2)
/-- Do numbers rise, each from 1 to 64? -/
def risingB : Int → List Int → Bool
  | _, [] => true
  | a, x :: r => decide (a < x) && (decide (x ≤ 64) && risingB x r)
def validB (l : List Int) : Bool := decide (1 ≤ l.length) && (decide (l.length ≤ 9) && risingB 0 l)
/-- A reader's state (none: something was wrong): a number. -/
def varS : Option (List UInt8) → Int × Option (List UInt8)
  | none => (0, none)
  | some l => match numb l with
    | some (v, r) => (v, some r)
    | none => (0, none)
/-- How many there are. -/
def countS (most : Int) (st : Option (List UInt8)) : Int × Option (List UInt8) :=
  if (varS st).2.isNone = true ∨ (varS st).1 < 0 ∨ most < (varS st).1 then (0, none) else varS st
/-- So many numbers, one behind the other. -/
def readS (st : Option (List UInt8)) : Nat → List Int × Option (List UInt8)
  | 0 => ([], st)
  | k + 1 => ((readS st k).1 ++ [(varS (readS st k).2).1], (varS (readS st k).2).2)
theorem readS_len (st : Option (List UInt8)) : ∀ k, (readS st k).1.length = k
  | 0 => rfl
  | k + 1 => by
    show ((readS st k).1 ++ _).length = _
    rw [List.length_append, readS_len st k]
    rfl
/-- Members out of bytes. -/
def gm (b : ByteArray) : Option (List Int) :=
  if (readS (countS 9 (some b.data.toList)).2 (countS 9 (some b.data.toList)).1.toNat).2 = some [] ∧ validB (readS (countS 9 (some b.data.toList)).2 (countS 9 (some b.data.toList)).1.toNat).1 = true
  then some (readS (countS 9 (some b.data.toList)).2 (countS 9 (some b.data.toList)).1.toNat).1 else none

theorem rising_el : ∀ (l : List Int) (a : Int), risingB a l = true ↔ ∀ i, i < l.length → HL.el l i ≤ 64 ∧ (if i = 0 then a else HL.el l (i - 1)) < HL.el l i
  | [], _ => by simp [risingB]
  | x :: r, a => by
    unfold risingB
    simp only [Bool.and_eq_true, decide_eq_true_eq]
    rw [rising_el r x]
    constructor
    · rintro ⟨h1, h2, h3⟩ i hi
      match i with
      | 0 => exact ⟨h2, h1⟩
      | i + 1 =>
        have h4 := h3 i (by simpa using hi)
        refine ⟨h4.1, ?_⟩
        have h5 := h4.2
        by_cases hz : i = 0
        · subst hz; exact h5
        · rw [if_neg hz] at h5
          obtain ⟨k, rfl⟩ : ∃ k, i = k + 1 := ⟨i - 1, by omega⟩
          exact h5
    · intro h
      have h0 := h 0 (by simp)
      refine ⟨h0.2, h0.1, fun i hi => ?_⟩
      have h4 := h (i + 1) (by simpa using hi)
      refine ⟨h4.1, ?_⟩
      have h5 := h4.2
      by_cases hz : i = 0
      · subst hz; exact h5
      · rw [if_neg hz]
        obtain ⟨k, rfl⟩ : ∃ k, i = k + 1 := ⟨i - 1, by omega⟩
        exact h5

theorem rising_low : ∀ (l : List Int) (a : Int), risingB a l = true → ∀ i, i < l.length → a < HL.el l i
  | [], _, _, i, hi => absurd hi (Nat.not_lt_zero i)
  | x :: r, a, h, i, hi => by
    unfold risingB at h
    simp only [Bool.and_eq_true, decide_eq_true_eq] at h
    match i with
    | 0 => exact h.1
    | i + 1 =>
      have := rising_low r x h.2.2 i (by simpa using hi)
      exact Int.lt_trans h.1 this

theorem valid_iff (l : List Int) : validB l = true ↔ CL.Valid l := by
  unfold validB CL.Valid CL.goodTo CL.isId
  simp only [Bool.and_eq_true, decide_eq_true_eq]
  constructor
  · rintro ⟨h1, h2, h3⟩
    refine ⟨h1, h2, fun i hi => ?_⟩
    have h4 := (rising_el l 0).1 h3 i hi
    have h5 := rising_low l 0 h3 i hi
    refine ⟨⟨by omega, h4.1⟩, fun h0 => ?_⟩
    have := h4.2
    rwa [if_neg (by omega)] at this
  · rintro ⟨h1, h2, h3⟩
    refine ⟨h1, h2, (rising_el l 0).2 fun i hi => ?_⟩
    have h4 := h3 i hi
    refine ⟨h4.1.2, ?_⟩
    by_cases h0 : i = 0
    · rw [if_pos h0]; subst h0; have := h4.1.1; omega
    · rw [if_neg h0]; exact h4.2 (by omega)
theorem gm_valid {b : ByteArray} {l : List Int} (h : gm b = some l) : CL.Valid l := by
  unfold gm at h
  split at h
  · rename_i hy
    injection h with h
    rw [← h]
    exact (valid_iff _).1 hy.2
  · cases h
end Go.Proofs.YtaodldagmmephaaGreat

/- num: a number out of bytes. -/
namespace Go.Proofs.YtaodldagmmephaaGreat
open Go.RowKit

def numP (b : ByteArray) (v : Value) : Prop := match numb b.data.toList with
  | some x => v = .tuple #[.int .i64 x.1, .string ⟨x.2.toArray⟩, .int .i64 0]
  | none => ∃ c : Int, 1 ≤ c ∧ c ≤ 99 ∧ v = .tuple #[.int .i64 0, .string ⟨#[]⟩, .int .i64 c]

theorem and127 (c : Nat) (h : c < 256) : bits .and .u8 (c : Int) 127 = ((c % 128 : Nat) : Int) := by
  have e := u8_and_nat c 127 h (by omega)
  rw [show ((127 : Nat) : Int) = 127 from rfl] at e
  rw [e, show (127 : Nat) = 2 ^ 7 - 1 from rfl, Nat.and_two_pow_sub_one_eq_mod]
theorem and128 (c : Nat) (h : c < 256) : (bits .and .u8 (c : Int) 128 != 0) = decide (128 ≤ c) := by
  have e := u8_and_nat c 128 h (by omega)
  rw [show ((128 : Nat) : Int) = 128 from rfl] at e
  rw [e]
  have h2 : c &&& 128 = c / 128 % 2 * 128 := nat_bit 7 c
  rw [h2]
  by_cases h3 : 128 ≤ c
  · rw [decide_eq_true h3]
    have : c / 128 % 2 * 128 = 128 := by omega
    rw [this]; rfl
  · rw [decide_eq_false h3]
    have : c / 128 % 2 * 128 = 0 := by omega
    rw [this]; rfl
theorem group_lt (i n d : Nat) (hi : i ≤ 9) (hn : n < 2 ^ (7 * i)) (hd : d < 128) (h9 : i = 9 → d ≤ 1) : d * 2 ^ (7 * i) < 2 ^ 64 ∧ n + d * 2 ^ (7 * i) < 2 ^ 64 ∧ n + d * 2 ^ (7 * i) < 2 ^ (7 * (i + 1)) := by
  have e : 2 ^ (7 * (i + 1)) = 128 * 2 ^ (7 * i) := by rw [show 7 * (i + 1) = 7 + 7 * i by omega, Nat.pow_add]
  have h2 : d * 2 ^ (7 * i) ≤ 127 * 2 ^ (7 * i) := Nat.mul_le_mul_right _ (by omega)
  refine ⟨?_, ?_, by omega⟩
  all_goals (
    by_cases h : i = 9
    · subst h
      have := h9 rfl
      have : d * 2 ^ (7 * 9) ≤ 1 * 2 ^ (7 * 9) := Nat.mul_le_mul_right _ (by omega)
      omega
    · have : 2 ^ (7 * i) ≤ 2 ^ (7 * 8) := Nat.pow_le_pow_right (by omega) (by omega)
      omega)
theorem or_group (i n c : Nat) (hi : i ≤ 9) (hn : n < 2 ^ (7 * i)) (hc : c < 256) (h9 : i = 9 → c ≤ 1) :
    bits .or .u64 (n : Int) (IntKind.u64.wrap (IntKind.u64.wrap (bits .and .u8 (c : Int) 127) * 2 ^ (7 * i))) = ((n + c % 128 * 2 ^ (7 * i) : Nat) : Int) := by
  obtain ⟨h1, h2, _⟩ := group_lt i n (c % 128) hi hn (by omega) (fun h => by have := h9 h; omega)
  rw [and127 c hc, IntKind.wrap_u64, IntKind.wrap_u64]
  have e1 : ((c % 128 : Nat) : Int) % 18446744073709551616 = ((c % 128 : Nat) : Int) := by omega
  have e2 : ((c % 128 : Nat) : Int) * 2 ^ (7 * i) = ((c % 128 * 2 ^ (7 * i) : Nat) : Int) := by simp
  rw [e1, e2]
  have e3 : ((c % 128 * 2 ^ (7 * i) : Nat) : Int) % 18446744073709551616 = ((c % 128 * 2 ^ (7 * i) : Nat) : Int) := by omega
  rw [e3, u64_or_nat n _ (by omega) (by omega)]
  have h := Nat.two_pow_add_eq_or_of_lt hn (c % 128)
  rw [Nat.or_comm, Nat.mul_comm (c % 128), ← h, Nat.add_comm]

theorem unzig_bits (m : Nat) (hm : m < 2 ^ 64) : bits .xor .i64 ((m : Int) / 2) (wrap64 (-wrap64 (bits .and .u64 (m : Int) 1))) = unzig m := by
  have e := u64_and_nat m 1 (by omega) (by omega)
  rw [show ((1 : Nat) : Int) = 1 from rfl] at e
  rw [e, show (1 : Nat) = 2 ^ 1 - 1 from rfl, Nat.and_two_pow_sub_one_eq_mod]
  unfold unzig
  have e1 : (BitVec.ofInt 64 ((m / 2 : Nat) : Int)).toNat = m / 2 := by rw [BitVec.toNat_ofInt]; omega
  rw [show (m : Int) / 2 = ((m / 2 : Nat) : Int) by omega]
  by_cases h : m % 2 = 0
  · rw [if_pos h, show m % 2 ^ 1 = 0 by omega]
    have e2 : wrap64 (-wrap64 ((0 : Nat) : Int)) = 0 := by unfold wrap64; omega
    rw [e2]
    show IntKind.i64.wrap ((BitVec.ofInt 64 ((m / 2 : Nat) : Int) ^^^ BitVec.ofInt 64 0).toNat : Nat) = _
    rw [BitVec.toNat_xor, e1, show (BitVec.ofInt 64 0).toNat = 0 from by decide, Nat.xor_zero, IntKind.wrap_i64]
    omega
  · rw [if_neg h, show m % 2 ^ 1 = 1 by omega]
    have e2 : wrap64 (-wrap64 ((1 : Nat) : Int)) = -1 := by unfold wrap64; omega
    rw [e2]
    show IntKind.i64.wrap ((BitVec.ofInt 64 ((m / 2 : Nat) : Int) ^^^ BitVec.ofInt 64 (-1)).toNat : Nat) = _
    have e3 : BitVec.ofInt 64 (-1) = BitVec.allOnes 64 := by decide
    rw [e3, BitVec.xor_allOnes, BitVec.toNat_not, e1, IntKind.wrap_i64]
    omega
theorem cut_rest (b : ByteArray) (i : Nat) : b.extract i b.size = ⟨(b.data.toList.drop i).toArray⟩ := by
  apply ByteArray.ext
  apply Array.ext'
  rw [ByteArray.data_extract, Array.toList_extract]
  show List.extract _ _ _ = _
  rw [List.extract_eq_take_drop]
  exact List.take_of_length_le (by rw [List.length_drop]; exact Nat.le_refl _)

set_option maxHeartbeats 2000000 in
set_option maxRecDepth 100000 in
theorem num_number (b : ByteArray) (w : World) (hb : b.size ≤ 2000000) :
    Calls Tryz.prog 111 #[.string b] w fun e w' => ∃ v, e = .returned v ∧ numP b v ∧ Below w.heap.size w w' := by
  have H0 : Hid (numGo b.data.toList 0 0 = numGo (b.data.toList.drop 0) 0 0) := Lib.hid rfl
  go_enter Tryz.func111, Tryz.ntmps111
  go_wp2
  go_loopw [5, 6] (fun nv iv wr => ∃ (i n : Nat), i ≤ b.size ∧ i ≤ 9 ∧ n < 2 ^ (7 * i) ∧ iv = .int .i64 i ∧ nv = .int .u64 n ∧ Hid (numGo b.data.toList 0 0 = numGo (b.data.toList.drop i) i n) ∧ wr = w) (fun _ iv _ => b.size - (intOf iv).toNat)
  case atStart => exact ⟨0, 0, by omega, by omega, by simp, rfl, rfl, H0, rfl⟩
  case round =>
    clear H0
    obtain ⟨i, n, hi, hi9, hn, rfl, rfl, HG, hwr⟩ := hrel
    subst hwr
    by_cases hlt : i < b.size
    · have hz : b[i].toNat < 256 := UInt8.toNat_lt _
      have HD : Hid (b.data.toList.drop i = b[i] :: b.data.toList.drop (i + 1)) := Lib.hid (by
        rw [List.drop_eq_getElem_cons (by simpa using hlt)]
        rfl)
      have HU : Hid (∀ n, numGo (b.data.toList.drop i) i n = if i = 9 ∧ 1 < b[i].toNat then none else if 128 ≤ b[i].toNat then numGo (b.data.toList.drop (i + 1)) (i + 1) (n + b[i].toNat % 128 * 2 ^ (7 * i)) else if b[i].toNat = 0 ∧ 0 < i then none else some (n + b[i].toNat % 128 * 2 ^ (7 * i), b.data.toList.drop (i + 1))) := Lib.hid (fun n => by
        rw [HD.out]; rfl)
      clear HD
      generalize hcc : b[i].toNat = c at *
      have g0 : (c : Int) < 256 := by omega
      by_cases he : i = 9 ∧ 1 < c
      · have k1 : ((i : Int) == 9) = true := by simp; omega
        have k2 : decide (1 < (c : Int)) = true := decide_eq_true (by omega)
        have HE : Hid (numb b.data.toList = none) := Lib.hid (by unfold numb; rw [HG.out, HU.out, if_pos he]; rfl)
        clear he
        go_wp2
        refine bodyPost_ret (results_tmp3 rfl _ _ _) rfl ?_
        exact ⟨_, rfl, by unfold numP; rw [HE.out]; exact ⟨4, by omega, by omega, rfl⟩, Below.refl _ _⟩
      · have hcs : ((i : Int) == 9) = false ∨ (((i : Int) == 9) = true ∧ decide (1 < (c : Int)) = false) := by
          by_cases h9 : i = 9
          · exact .inr ⟨by simp; omega, decide_eq_false (by omega)⟩
          · exact .inl (by simp; omega)
        have t2 := or_group i n c hi9 hn hz (fun h => by omega)
        have HM := Lib.hid (group_lt i n (c % 128) hi9 hn (by omega) (fun h => by omega)).2
        obtain ⟨m, hm⟩ : ∃ m, m = n + c % 128 * 2 ^ (7 * i) := ⟨_, rfl⟩
        have HU2 : Hid (numGo b.data.toList 0 0 = if 128 ≤ c then numGo (b.data.toList.drop (i + 1)) (i + 1) m else if c = 0 ∧ 0 < i then none else some (m, b.data.toList.drop (i + 1))) := Lib.hid (by rw [HG.out, HU.out, if_neg he, hm])
        rw [← hm] at t2 HM
        clear hm HU HG
        by_cases hc128 : 128 ≤ c
        · have t1 : (bits .and .u8 (c : Int) 128 != 0) = true := by rw [and128 c hz]; exact decide_eq_true hc128
          have HN : Hid (numGo b.data.toList 0 0 = numGo (b.data.toList.drop (i + 1)) (i + 1) m) := Lib.hid (by rw [HU2.out, if_pos hc128])
          have hi8 : i ≠ 9 := by omega
          clear HU2 he
          rcases hcs with k1 | ⟨k1, k2⟩ <;> (
            go_wp2
            go_roundw
            case rel => exact ⟨i + 1, m, by omega, by omega, HM.out.2, by go_num, rfl, HN, trivial⟩
            case measure => simp [intOf]; omega)
        · have t1 : (bits .and .u8 (c : Int) 128 != 0) = false := by rw [and128 c hz]; exact decide_eq_false hc128
          by_cases hz0 : c = 0 ∧ 0 < i
          · have k3 : ((c : Int) == 0) = true := by simp; omega
            have k4 : decide (0 < (i : Int)) = true := decide_eq_true (by omega)
            have k5 : decide (0 < i) = true := decide_eq_true (by omega)
            have HE : Hid (numb b.data.toList = none) := Lib.hid (by unfold numb; rw [HU2.out, if_neg hc128, if_pos hz0]; rfl)
            clear HU2 he hz0
            rcases hcs with k1 | ⟨k1, k2⟩ <;> (
              go_wp2
              refine bodyPost_ret (results_tmp3 rfl _ _ _) rfl ?_
              exact ⟨_, rfl, by unfold numP; rw [HE.out]; exact ⟨4, by omega, by omega, rfl⟩, Below.refl _ _⟩)
          · have hcs2 : ((c : Int) == 0) = false ∨ (((c : Int) == 0) = true ∧ decide (0 < (i : Int)) = false ∧ decide (0 < i) = false) := by
              by_cases h0 : c = 0
              · exact .inr ⟨by simp; omega, decide_eq_false (by omega), decide_eq_false (by omega)⟩
              · exact .inl (by simp; omega)
            have HE : Hid (numb b.data.toList = some (unzig m, b.data.toList.drop (i + 1))) := Lib.hid (by unfold numb; rw [HU2.out, if_neg hc128, if_neg hz0]; rfl)
            clear HU2 he hz0
            have hm64 := HM.out.1
            have hwm : IntKind.u64.wrap (m : Int) = (m : Int) := by rw [IntKind.wrap_u64]; omega
            rcases hcs with k1 | ⟨k1, k2⟩ <;> rcases hcs2 with k3 | ⟨k3, k4, k5⟩ <;> (
              go_wp2
              refine wp_region_later (by kernel_rfl) (by kernel_rfl) ?_
              repeat (go_big_quiet_step (fail))
              refine wpQuiet_nil ?_
              intro W3 hw'
              obtain ⟨⟨wq, hq⟩, hw''⟩ := hw'
              have hwe : W3 = wq := hw''
              clear hw''
              subst hwe
              clear k1 k3
              go_wp2
              refine bodyPost_ret (results_tmp3 rfl _ _ _) rfl ?_
              exact ⟨_, rfl, by unfold numP; rw [HE.out]; dsimp only; rw [← unzig_bits m hm64, ← cut_rest]; rfl, hq⟩)
    · obtain rfl : i = b.size := by omega
      have d0 : decide ((b.size : Int) ≤ (b.size : Int)) = true := by simp
      go_wp2
      refine bodyPost_ret (results_tmp3 rfl _ _ _) rfl ?_
      have HE : numb b.data.toList = none := by
        unfold numb
        have h0 : b.data.toList.drop b.size = [] := List.drop_of_length_le (Nat.le_refl _)
        rw [HG.out, h0]
        rfl
      exact ⟨_, rfl, by unfold numP; rw [HE]; exact ⟨5, by omega, by omega, rfl⟩, Below.refl _ _⟩
end Go.Proofs.YtaodldagmmephaaGreat

/- rlog: slices.Clone of entries; Slice; Reset. -/
namespace Go.Proofs.YtaodldagmmephaaGreat
open Go.RowKit

set_option maxRecDepth 100000 in
theorem clone_ens (p : Option Addr) (n c : Nat) (l : List En) (w : World) (h : RdG ecells w w.heap.size p n l) (hp : (∃ b o, p = some ⟨b, o, none⟩) ∨ p = none ∧ c = 0) (hn : n ≤ 100000) :
    Calls Tryz.prog 92 #[.slice p n c] w fun e w' => ∃ v', e = .returned v' ∧ w'.ownsRow w.heap.size 25 4 v' n (rowOf ecells l) ∧ Below w.heap.size w w' := by
  rcases hp with ⟨b, o, rfl⟩ | ⟨rfl, rfl⟩
  · obtain ⟨i0, hi0, hz0, hz1, hz2⟩ := info_parts info_en
    refine (AnyE.slices_Clone Tryz.layCloneE i0 _ 4 40 hi0 hz0 hz1 hz2 rfl (by omega) (fun w => by kernel_rfl) b o n c (rowOf ecells l) w (by rw [rowOf_length ecells ecells_length, h.1]) (by unfold maxLen; omega) (by omega) (fun j u hu => ?_) (fun u hu => ?_)).mono ?_
    · have hlen := rowOf_length ecells ecells_length l
      have hj : j < (rowOf ecells l).length := (List.getElem?_eq_some_iff.1 hu).1
      obtain ⟨b', o', e, _, hc⟩ := h.2 (by rw [← h.1]; omega)
      injection e with e
      injection e with e1 e2 _
      subst e1 e2
      exact hc j u hu
    · obtain ⟨x, _, hx⟩ := rowOf_mem hu
      exact en_T.one x u hx
    · rintro e w' ⟨v', rfl, ho, _, hb⟩
      exact ⟨v', rfl, ho, hb⟩
  · have h0 : n = 0 := by
      rcases Nat.eq_zero_or_pos n with h0 | h0
      · exact h0
      · obtain ⟨b, o, e, _⟩ := h.2 h0
        cases e
    subst h0
    refine (AnyE.slices_Clone_nil Tryz.layCloneE 0 0 w).mono ?_
    rintro e w' ⟨rfl, rfl⟩
    have : l = [] := List.eq_nil_of_length_eq_zero h.1
    subst this
    exact ⟨_, rfl, World.ownsRow_nil _ _ _ _, Below.refl _ _⟩
theorem owns_capsE {w : World} {base g n cap : Nat} {e : TypeId} {size : Nat} {xs : List Value} (h : w.ownsRow base e size (.slice (some ⟨g, 0, none⟩) n cap) n xs) : n ≤ cap ∧ cap ≤ 9223372036854775807 := by
  rcases h.2 with ⟨h, _⟩ | ⟨_, _, _, h, _, _, hc, hm, _⟩
  · cases h
  · injection h with _ _ h
    subst h
    unfold maxLen at hm
    exact ⟨hc, hm⟩
theorem owns_lowE {w : World} {base base' n : Nat} {e : TypeId} {size : Nat} {v : Value} {xs : List Value} (h : w.ownsRow base e size v n xs) (hb : base' ≤ base) : w.ownsRow base' e size v n xs := by
  refine ⟨h.1, ?_⟩
  rcases h.2 with e | ⟨g, c, cur, e, hbase, rest⟩
  · exact .inl e
  · exact .inr ⟨g, c, cur, e, by omega, rest⟩
/-- Some entries. -/
def sliceS (b : Int) (l : List En) (fr most : Int) : List En := if fr ≤ b ∨ (l.length : Int) < fr - b ∨ most < 1 then [] else (l.drop (fr - b - 1).toNat).take most.toNat

section
variable {xb base : Nat} {b t : Int} {v : Value} {l : List En} {w : World}

set_option maxHeartbeats 1000000 in
set_option maxRecDepth 100000 in
theorem lg_slice (fr most : Int) (h : Lg xb base b t v l w) (hi : fr ≤ 9223372036854775807) : Calls Tryz.prog 123 #[.pointer (some ⟨xb, 0, none⟩), .int .i64 fr, .int .i64 most] w fun e w' => ∃ v', e = .returned v' ∧ w'.ownsRow w.heap.size 25 4 v' (sliceS b l fr most).length (rowOf ecells (sliceS b l fr most)) ∧ Below w.heap.size w w' := by
  obtain ⟨p, c, hv, hrd, hnil⟩ := h.rd
  have hlo := h.lo
  have hhi := h.hi
  have hfew := h.few
  have hown := h.ow
  rw [hv] at hown
  have HOW := Lib.hid hown
  have HRD := Lib.hid hrd
  have q0 : ∀ q : Later w, q.1.cell? ⟨xb, 0, none⟩ = some (.int .i64 b) := fun q => (h.below q.2).c0
  have q2 : ∀ q : Later w, q.1.cell? ⟨xb, 2, none⟩ = some (.slice p l.length c) := fun q => by
    have := (h.below q.2).c2
    rw [hv] at this
    exact this
  clear h hv hrd hnil hown
  unfold sliceS
  by_cases h1 : fr ≤ b
  · rw [if_pos (.inl h1)]
    have hd : decide (fr ≤ b) = true := decide_eq_true h1
    go_enter Tryz.func123, Tryz.ntmps123
    go_wp2_with fail
    refine wp_region_later (by kernel_rfl) (by kernel_rfl) ?_
    repeat (go_big_quiet_step (fail))
    refine wpQuiet_nil ?_
    intro w3 hw'
    obtain ⟨⟨wq, hq3⟩, hw''⟩ := hw'
    have hw3 : w3 = wq := hw''
    clear hw''
    subst hw3
    have HB3 := Lib.hid hq3
    clear hq3 q0 q2 hd
    go_wp2
    go_ret
    exact ⟨_, rfl, World.ownsRow_nil _ _ _ _, HB3.out⟩
  · have hd : decide (fr ≤ b) = false := decide_eq_false h1
    obtain ⟨k, hk⟩ : ∃ k : Nat, fr - b = (k : Int) + 1 := ⟨(fr - b - 1).toNat, by omega⟩
    have hw1 : IntKind.i64.wrap (fr - b) = (k : Int) + 1 := by rw [← hk]; exact IntWalk.i64_in _ (by omega)
    by_cases h2 : l.length ≤ k
    · rw [if_pos (.inr (.inl (by omega)))]
      have hd2 : decide (l.length ≤ k) = true := decide_eq_true h2
      have hd3 : decide ((l.length : Int) < (k : Int) + 1) = true := decide_eq_true (by omega)
      clear hk
      go_enter Tryz.func123, Tryz.ntmps123
      go_wp2_with fail
      refine wp_region_later (by kernel_rfl) (by kernel_rfl) ?_
      repeat (go_big_quiet_step (fail))
      refine wpQuiet_nil ?_
      intro w3 hw'
      obtain ⟨⟨wq, hq3⟩, hw''⟩ := hw'
      have hw3 : w3 = wq := hw''
      clear hw''
      subst hw3
      have HB3 := Lib.hid hq3
      clear hq3 q0 q2 hd hd2 hd3 hw1
      go_wp2
      go_ret
      exact ⟨_, rfl, World.ownsRow_nil _ _ _ _, HB3.out⟩
    · have hd2 : decide (l.length ≤ k) = false := decide_eq_false h2
      have hd3 : decide ((l.length : Int) < (k : Int) + 1) = false := decide_eq_false (by omega)
      by_cases h3 : most < 1
      · rw [if_pos (.inr (.inr h3))]
        have hd4 : decide (most < 1) = true := decide_eq_true h3
        clear hk
        go_enter Tryz.func123, Tryz.ntmps123
        go_wp2_with fail
        refine wp_region_later (by kernel_rfl) (by kernel_rfl) ?_
        repeat (go_big_quiet_step (fail))
        refine wpQuiet_nil ?_
        intro w3 hw'
        obtain ⟨⟨wq, hq3⟩, hw''⟩ := hw'
        have hw3 : w3 = wq := hw''
        clear hw''
        subst hw3
        have HB3 := Lib.hid hq3
        clear hq3 q0 q2 hd hd2 hd3 hd4 hw1
        go_wp2
        go_ret
        exact ⟨_, rfl, World.ownsRow_nil _ _ _ _, HB3.out⟩
      · rw [if_neg (by omega)]
        have hd4 : decide (most < 1) = false := decide_eq_false h3
        have hki : (fr - b - 1).toNat = k := by omega
        rw [hki]
        clear hk hki
        obtain ⟨g, cap, hgp, hg1, hg2, hg3⟩ := owns_len HOW.out (by omega)
        injection hgp with hgp _ hgc
        subst hgp hgc
        have hcm := (owns_capsE HOW.out).2
        obtain ⟨mm, rfl⟩ := Int.eq_ofNat_of_zero_le (show 0 ≤ most by omega)
        obtain ⟨r, hr⟩ : ∃ r, l.length = k + r := ⟨l.length - k, by omega⟩
        have hr0 : 0 < r := by omega
        have HDR : Hid (RdG ecells w w.heap.size (some ⟨g, 0 + k * 4, none⟩) r (l.drop k)) := Lib.hid (by
          have h9 := HRD.out.drops ecells_length (k := k) (by omega)
          rwa [show l.length - k = r by omega] at h9)
        have HTK : Hid ((l.drop k).length = r) := Lib.hid (by rw [List.length_drop]; omega)
        obtain ⟨n, hn⟩ : ∃ n, n = l.length := ⟨_, rfl⟩
        rw [← hn] at q2 hd2 hd3 hfew hr
        have HR := Lib.hid hr
        have hkb : k ≤ 10000 := by omega
        have hwk : IntKind.i64.wrap (k : Int) = (k : Int) := IntWalk.i64_in _ (by omega)
        have hk0 : (0 : Int) ≤ (k : Int) := by omega
        have hkc : (k : Int) ≤ (c : Int) := by omega
        have hkc2 : k < c := by omega
        have hnc : n ≤ c := by omega
        have hr5 : r ≤ 10000 := by omega
        have hkn : (k : Int) ≤ (n : Int) := by omega
        have hkn2 : k ≤ n := by omega
        generalize l.drop k = L at *
        clear hr hn h2
        go_enter Tryz.func123, Tryz.ntmps123
        go_wp2_with fail
        refine wp_region_later (by kernel_rfl) (by kernel_rfl) ?_
        repeat (go_big_quiet_step (fail))
        refine wpQuiet_nil ?_
        intro w3 hw'
        obtain ⟨⟨wq, hq3⟩, hw''⟩ := hw'
        have hw3 : w3 = wq := hw''
        clear hw''
        subst hw3
        have r0 : ∀ q : Later w3, q.1.cell? ⟨xb, 0, none⟩ = some (.int .i64 b) := fun q => q0 ⟨q.1, hq3.trans (q.2.mono hq3.size)⟩
        have r2 : ∀ q : Later w3, q.1.cell? ⟨xb, 2, none⟩ = some (.slice (some ⟨g, 0, none⟩) n c) := fun q => q2 ⟨q.1, hq3.trans (q.2.mono hq3.size)⟩
        have HB3 := Lib.hid hq3
        clear q0 q2 hq3
        go_wp2_with fail
        refine wp_region_later (by kernel_rfl) (by kernel_rfl) ?_
        repeat (go_big_quiet_step (fail))
        refine wpQuiet_nil ?_
        intro w4 hw'
        obtain ⟨⟨wq, hq4⟩, hw''⟩ := hw'
        have hw4 : w4 = wq := hw''
        clear hw''
        subst hw4
        have HB4 : Hid (Below w.heap.size w w4) := Lib.hid (HB3.out.trans (hq4.mono HB3.out.size))
        clear r0 r2 hq4 hd hd2 hd3 hd4 hw1 hwk
        obtain ⟨q, hq⟩ : ∃ q, c - k = q := ⟨_, rfl⟩
        have hnk : n - k = r := by have := HR.out; omega
        have hrq : r ≤ q := by have := HR.out; omega
        rw [hnk, hq]
        clear hnk hq hkn hkn2 hkc hkc2
        have HCM : Hid (∀ m, m ≤ r → ∀ W, Below w.heap.size w W → Calls Tryz.prog 92 #[.slice (some ⟨g, k * 4, none⟩) m q] W fun e w' => ∃ v', e = .returned v' ∧ w'.ownsRow W.heap.size 25 4 v' m (rowOf ecells (L.take m)) ∧ Below W.heap.size W w') := Lib.hid (fun m hm W hW => by
          have h9 := HDR.out.takes ecells_length (k := m) hm
          rw [Nat.zero_add] at h9
          exact clone_ens _ m q _ W ((h9.below hW).more hW.size) (.inl ⟨_, _, rfl⟩) (by omega))
        by_cases hmr : mm ≤ r
        · have hmin : min (mm : Int) (r : Int) = (mm : Int) := by omega
          have hmq : mm ≤ q := by omega
          have hmqI : (mm : Int) ≤ (q : Int) := by omega
          have HC := Lib.hid (HCM.out mm hmr w4 HB4.out)
          have HLL : Hid ((L.take (mm : Int).toNat).length = mm ∧ L.take (mm : Int).toNat = L.take mm) := Lib.hid ⟨by rw [List.length_take, HTK.out]; simp; omega, by simp⟩
          go_wp2_with fail
          with_reducible refine HC.out.mono ?_
          rintro e w5 ⟨v', rfl, ho, hb⟩
          have HX := Lib.hid (And.intro ho hb)
          clear ho hb
          go_wp2
          go_ret
          refine ⟨_, rfl, ?_, HB4.out.trans (HX.out.2.mono HB4.out.size)⟩
          rw [HLL.out.1, HLL.out.2]
          exact owns_lowE HX.out.1 HB4.out.size
        · have hmin : min (mm : Int) (r : Int) = (r : Int) := by omega
          have hmqI : (r : Int) ≤ (q : Int) := by omega
          have HC := Lib.hid (HCM.out r (Nat.le_refl _) w4 HB4.out)
          have HLL : Hid ((L.take (mm : Int).toNat).length = r ∧ L.take (mm : Int).toNat = L.take r) := Lib.hid ⟨by rw [List.length_take, HTK.out]; simp; omega, by rw [List.take_of_length_le (by rw [HTK.out]; simp; omega), List.take_of_length_le (by rw [HTK.out]; exact Nat.le_refl _)]⟩
          go_wp2_with fail
          with_reducible refine HC.out.mono ?_
          rintro e w5 ⟨v', rfl, ho, hb⟩
          have HX := Lib.hid (And.intro ho hb)
          clear ho hb
          go_wp2
          go_ret
          refine ⟨_, rfl, ?_, HB4.out.trans (HX.out.2.mono HB4.out.size)⟩
          rw [HLL.out.1, HLL.out.2]
          exact owns_lowE HX.out.1 HB4.out.size
end
end Go.Proofs.YtaodldagmmephaaGreat

/- rlog: Reset, Add. -/
namespace Go.Proofs.YtaodldagmmephaaGreat
open Go.RowKit

/-- The worlds in which only blocks of S, and new ones, have changed. -/
def KeptF (S : Nat → Prop) (w : World) : Type := {W : World // Fr S w W}
instance (S : Nat → Prop) (w : World) : Inhabited (KeptF S w) := ⟨⟨w, Fr.refl _ _⟩⟩

set_option maxRecDepth 100000 in
theorem clone_str (s : ByteArray) (w : World) (hs : s.size ≤ 2000000) :
    Calls Tryz.prog 109 #[.string s] w fun e w' => e = .returned (.string s) ∧ Below w.heap.size w w' := by
  have HC := Lib.hid (Tryz.stringslite_Clone s w (by omega))
  go_enter Tryz.func109, Tryz.ntmps109
  go_wp2_with fail
  refine HC.out.mono ?_
  rintro e w' ⟨rfl, hb⟩
  go_wp2
  go_ret
  exact ⟨rfl, hb⟩

section
variable {xb base : Nat} {b t : Int} {v : Value} {l : List En} {w : World}

/-- The row alone is another one. -/
theorem Lg.row {W : World} {v' : Value} {l' : List En} (h : Lg xb base b t v l w) (hF : Fr (fun k => v.ownBlock = some k) w W) (ho : W.ownsRow base 25 4 v' l'.length (rowOf ecells l')) (hne : v'.ownBlock ≠ some xb) (hfew : l'.length ≤ 10000) :
    Lg xb base b t v' l' (W.setCell ⟨xb, 2, none⟩ v') ∧ Fr (lgF xb v) w (W.setCell ⟨xb, 2, none⟩ v') := by
  have hlt : xb < w.heap.size := cell_lt h.c0
  have hc : ∀ o, W.cell? ⟨xb, o, none⟩ = w.cell? ⟨xb, o, none⟩ := fun o => hF.cell (p := ⟨xb, o, none⟩) hlt h.ne
  have hf : ∀ o, W.frozen? ⟨xb, o, none⟩ = w.frozen? ⟨xb, o, none⟩ := fun o => hF.frozen (p := ⟨xb, o, none⟩) hlt h.ne
  have hs : ∀ o, o ≠ 2 → (W.setCell ⟨xb, 2, none⟩ v').cell? ⟨xb, o, none⟩ = W.cell? ⟨xb, o, none⟩ := fun o ho => World.cell?_setCell_other _ _ _ _ (by intro e; injection e with _ e _; omega)
  have hS : Fr (fun k => k = xb) W (W.setCell ⟨xb, 2, none⟩ v') := (Fr.refl (fun k => k = xb) W).setCell (p := ⟨xb, 2, none⟩) (fun _ => rfl) _
  refine ⟨⟨(hs 0 (by omega)).trans ((hc 0).trans h.c0), (hs 1 (by omega)).trans ((hc 1).trans h.c1), cell_set_same _ _ _ _ ((hc 2).trans h.c2), by rw [frozen_set, hf]; exact h.f0, by rw [frozen_set, hf]; exact h.f1, by rw [frozen_set, hf]; exact h.f2, hS.owns ho (fun g hg e => hne (by rw [hg, e])), hne, Nat.le_trans h.bs (Nat.le_trans hF.size hS.size), h.bb, h.lo, h.hi, hfew⟩, ?_⟩
  exact Fr.trans (hF.mono (fun i _ hi => .inr hi)) hS (fun i hi _ => .inl hi)

set_option maxRecDepth 100000 in
theorem lg_reset (b' t' : Int) (h : Lg xb base b t v l w) (h0 : 0 ≤ b') (h1 : b' ≤ 4611686018427387904) : Calls Tryz.prog 49 #[.pointer (some ⟨xb, 0, none⟩), .int .i64 b', .int .i64 t'] w fun e w' => e = .returned (.tuple #[]) ∧ Lg xb base b' t' (.slice none 0 0) [] w' ∧ Fr (fun k => k = xb) w w' := by
  have c0 := h.c0
  have c1 := h.c1
  have c2 := h.c2
  have f0 := h.f0
  have f1 := h.f1
  have f2 := h.f2
  have HB := Lib.hid (And.intro h.bs h.bb)
  clear h
  go_enter Tryz.func49, Tryz.ntmps49
  go_wp2
  go_end0
  have ne : ∀ (W : World) (i j : Nat) (u : Value), i ≠ j → (W.setCell ⟨xb, i, none⟩ u).cell? ⟨xb, j, none⟩ = W.cell? ⟨xb, j, none⟩ := fun W i j u hij => World.cell?_setCell_other _ _ _ _ (by intro e; injection e with _ e _; omega)
  refine ⟨rfl, ⟨?_, ?_, ?_, ?_, ?_, ?_, World.ownsRow_nil _ _ _ _, (fun h => by cases h), by simpa [World.setCell] using HB.out.1, HB.out.2, h0, h1, by simp⟩, (((Fr.refl (fun k => k = xb) w).setCell (p := ⟨xb, 0, none⟩) (fun _ => rfl) _).setCell (p := ⟨xb, 1, none⟩) (fun _ => rfl) _).setCell (p := ⟨xb, 2, none⟩) (fun _ => rfl) _⟩
  · rw [ne _ 2 0 _ (by omega), ne _ 1 0 _ (by omega)]; exact cell_set_same _ _ _ _ c0
  · rw [ne _ 2 1 _ (by omega)]; exact cell_set_same _ _ _ _ (by rw [ne _ 0 1 _ (by omega)]; exact c1)
  · exact cell_set_same _ _ _ _ (by rw [ne _ 1 2 _ (by omega), ne _ 0 2 _ (by omega)]; exact c2)
  · rw [frozen_set, frozen_set, frozen_set]; exact f0
  · rw [frozen_set, frozen_set, frozen_set]; exact f1
  · rw [frozen_set, frozen_set, frozen_set]; exact f2
end
end Go.Proofs.YtaodldagmmephaaGreat

/- num: a reader of numbers. -/
namespace Go.Proofs.YtaodldagmmephaaGreat
open Go.RowKit

theorem numGo_len : ∀ (l : List UInt8) (i n m : Nat) (r : List UInt8), numGo l i n = some (m, r) → r.length < l.length
  | [], _, _, _, _, h => by cases h
  | c :: l, i, n, m, r, h => by
    unfold numGo at h
    split at h
    · cases h
    · split at h
      · have := numGo_len l _ _ _ _ h
        simp only [List.length_cons]
        omega
      · split at h
        · cases h
        · injection h with h
          injection h with _ h
          subst h
          simp
theorem numb_len {l r : List UInt8} {v : Int} (h : numb l = some (v, r)) : r.length < l.length := by
  unfold numb at h
  rw [Option.map_eq_some_iff] at h
  obtain ⟨⟨m, r'⟩, h1, h2⟩ := h
  injection h2 with _ h2
  subst h2
  exact numGo_len _ _ _ _ _ h1

/-- A reader: what is left to read; none: something was wrong. -/
structure Rdr (rb : Nat) (st : Option (List UInt8)) (w : World) : Prop where
  cs : ∃ (bs : List UInt8) (c : Int), w.cell? ⟨rb, 0, none⟩ = some (.string ⟨bs.toArray⟩) ∧ w.cell? ⟨rb, 1, none⟩ = some (.int .i64 c) ∧ (match st with
    | some l => l = bs ∧ c = 0 ∧ bs.length ≤ 2000000
    | none => 1 ≤ c ∧ c ≤ 99)
  f0 : w.frozen? ⟨rb, 0, none⟩ = false
  f1 : w.frozen? ⟨rb, 1, none⟩ = false
section
variable {rb : Nat} {st : Option (List UInt8)} {w w' : World}
theorem Rdr.lt (h : Rdr rb st w) : rb < w.heap.size := by
  obtain ⟨bs, c, h0, _⟩ := h.cs
  exact cell_lt h0
theorem Rdr.keep (h : Rdr rb st w) {S : Nat → Prop} (hF : Fr S w w') (hS : ¬ S rb) : Rdr rb st w' := by
  have hlt := h.lt
  obtain ⟨bs, c, h0, h1, h2⟩ := h.cs
  exact ⟨⟨bs, c, (hF.cell (p := ⟨rb, 0, none⟩) hlt hS).trans h0, (hF.cell (p := ⟨rb, 1, none⟩) hlt hS).trans h1, h2⟩, (hF.frozen (p := ⟨rb, 0, none⟩) hlt hS).trans h.f0, (hF.frozen (p := ⟨rb, 1, none⟩) hlt hS).trans h.f1⟩
theorem Rdr.below (h : Rdr rb st w) (hb : Below w.heap.size w w') : Rdr rb st w' := h.keep (Fr.of_all (S := fun _ => False) hb) (fun h => h)
theorem Rdr.set0 {bs l : List UInt8} (h : Rdr rb (some bs) w) (hl : l.length ≤ 2000000) : Rdr rb (some l) (w.setCell ⟨rb, 0, none⟩ (.string ⟨l.toArray⟩)) := by
  obtain ⟨bs', c, h0, h1, rfl, h2, h3⟩ := h.cs
  refine ⟨⟨l, c, cell_set_same _ _ _ _ h0, ?_, rfl, h2, hl⟩, by rw [frozen_set]; exact h.f0, by rw [frozen_set]; exact h.f1⟩
  rw [World.cell?_setCell_other _ _ _ _ (by intro e; injection e with _ e _; omega)]
  exact h1
theorem Rdr.set1 {c : Int} (h : Rdr rb st w) (h1 : 1 ≤ c) (h2 : c ≤ 99) : Rdr rb none (w.setCell ⟨rb, 1, none⟩ (.int .i64 c)) := by
  obtain ⟨bs', c', h0, h3, _⟩ := h.cs
  refine ⟨⟨bs', c, ?_, cell_set_same _ _ _ _ h3, h1, h2⟩, by rw [frozen_set]; exact h.f0, by rw [frozen_set]; exact h.f1⟩
  rw [World.cell?_setCell_other _ _ _ _ (by intro e; injection e with _ e _; omega)]
  exact h0

def errIs (st : Option (List UInt8)) (c : Int) : Prop := match st with
  | some _ => c = 0
  | none => 1 ≤ c ∧ c ≤ 99
set_option maxRecDepth 100000 in
theorem rdr_off (h : Rdr rb st w) : Calls Tryz.prog 110 #[.pointer (some ⟨rb, 0, none⟩)] w fun e w' => e = .returned (.bool st.isNone) ∧ w' = w := by
  obtain ⟨bs, c, h0, h1, h2⟩ := h.cs
  clear h
  cases st with
  | none =>
    have hb : (c != 0) = true := by rw [bne_iff_ne]; have := h2.1; omega
    clear h2
    go_enter Tryz.func110, Tryz.ntmps110
    go_wp2
    go_ret
    exact ⟨rfl, rfl⟩
  | some l =>
    obtain ⟨_, rfl, _⟩ := h2
    go_enter Tryz.func110, Tryz.ntmps110
    go_wp2
    go_ret
    exact ⟨rfl, rfl⟩

set_option maxRecDepth 100000 in
theorem rdr_err (h : Rdr rb st w) : Calls Tryz.prog 112 #[.pointer (some ⟨rb, 0, none⟩)] w fun e w' => (∃ c : Int, e = .returned (.int .i64 c) ∧ errIs st c) ∧ w' = w := by
  obtain ⟨bs, c, h0, h1, h2⟩ := h.cs
  have H : Hid (errIs st c) := Lib.hid (by
    cases st with
    | none => exact h2
    | some l => exact h2.2.1)
  clear h h2
  go_enter Tryz.func112, Tryz.ntmps112
  go_wp2
  go_ret
  exact ⟨⟨_, rfl, H.out⟩, rfl⟩

set_option maxHeartbeats 2000000 in
set_option maxRecDepth 100000 in
theorem rdr_var (h : Rdr rb st w) : Calls Tryz.prog 77 #[.pointer (some ⟨rb, 0, none⟩)] w fun e w' => e = .returned (.int .i64 (varS st).1) ∧ Rdr rb (varS st).2 w' ∧ Fr (fun k => k = rb) w w' := by
  have HO := Lib.hid (rdr_off h)
  have H := Lib.hid h
  cases st with
  | none =>
    clear h
    go_enter Tryz.func77, Tryz.ntmps77
    go_wp2_with fail
    with_reducible refine (HO.out).mono ?_
    rintro e w1 ⟨rfl, hw1⟩
    subst hw1
    go_wp2
    go_ret
    exact ⟨rfl, H.out, Fr.refl _ _⟩
  | some l =>
    obtain ⟨bs, c, h0, h1, rfl, rfl, hlen⟩ := h.cs
    have HN := Lib.hid (num_number ⟨l.toArray⟩ w hlen)
    have HL := Lib.hid hlen
    clear h h1 hlen
    go_enter Tryz.func77, Tryz.ntmps77
    go_wp2_with fail
    with_reducible refine (HO.out).mono ?_
    rintro e w1 ⟨rfl, hw1⟩
    subst hw1
    go_wp2_with fail
    with_reducible refine (HN.out).mono ?_
    rintro e w2 ⟨v, rfl, hv, hb⟩
    have HB := Lib.hid hb
    have H2 := Lib.hid (H.out.below hb)
    clear hb HN HO h0
    unfold numP at hv
    rw [show (⟨l.toArray⟩ : ByteArray).data.toList = l from rfl] at hv
    cases hn : numb l with
    | none =>
      rw [hn] at hv
      obtain ⟨c, h1, h2, rfl⟩ := hv
      have HV : Hid (varS (some l) = (0, none)) := Lib.hid (by unfold varS; dsimp only; rw [hn])
      have HC := Lib.hid (And.intro h1 h2)
      have hb : (c != 0) = true := by rw [bne_iff_ne]; omega
      have f1 := H2.out.f1
      obtain ⟨_, _, _, c1, _⟩ := H2.out.cs
      have HS := Lib.hid (H2.out.set1 h1 h2)
      have HF : Hid (Fr (fun k => k = rb) w1 (w2.setCell ⟨rb, 1, none⟩ (.int .i64 c))) := Lib.hid (Fr.setCell (S := fun k => k = rb) (Fr.of_all HB.out) (p := ⟨rb, 1, none⟩) (fun _ => rfl) _)
      clear h1 h2 hn
      go_wp2
      go_ret
      rw [HV.out]
      exact ⟨rfl, HS.out, HF.out⟩
    | some x =>
      obtain ⟨x, r⟩ := x
      rw [hn] at hv
      subst hv
      have HV : Hid (varS (some l) = (x, some r)) := Lib.hid (by unfold varS; dsimp only; rw [hn])
      have f0 := H2.out.f0
      obtain ⟨_, _, c0, _, _⟩ := H2.out.cs
      have HS := Lib.hid (H2.out.set0 (l := r) (by have := numb_len hn; have := HL.out; omega))
      have HF : Hid (Fr (fun k => k = rb) w1 (w2.setCell ⟨rb, 0, none⟩ (.string ⟨r.toArray⟩))) := Lib.hid (Fr.setCell (S := fun k => k = rb) (Fr.of_all HB.out) (p := ⟨rb, 0, none⟩) (fun _ => rfl) _)
      clear hn
      go_wp2
      go_ret
      rw [HV.out]
      exact ⟨rfl, HS.out, HF.out⟩
end
end Go.Proofs.YtaodldagmmephaaGreat

/- rlog: Add. -/
namespace Go.Proofs.YtaodldagmmephaaGreat
open Go.RowKit

theorem one_cells (w : World) (f : List Value) (t : TypeId) {α : Type} (g : α → List Value) (x : α) (hg : g x = f) : RdG g (w.alloc (.cells f.toArray t)) (w.alloc (.cells f.toArray t)).heap.size (some ⟨w.heap.size, 0, none⟩) 1 [x] :=
  ⟨rfl, fun _ => ⟨w.heap.size, 0, rfl, by simp, fun j u hu => by
    rw [rowOf_one, hg] at hu
    have e := new_cells w f t j u hu
    have e2 : ((⟨w.heap.size, 0, none⟩ : Addr).add j) = ⟨w.heap.size, j, none⟩ := by
      unfold Addr.add
      split
      · rename_i h0; rw [h0]
      · simp
    rw [e2] at e
    rw [Nat.zero_add]
    exact e⟩⟩

section
variable {xb base : Nat} {b t : Int} {v : Value} {l : List En} {w : World}

set_option maxHeartbeats 2000000 in
set_option maxRecDepth 100000 in
theorem lg_add (tm kd : Int) (da : ByteArray) (h : Lg xb base b t v l w) (hda : da.size ≤ 2000000) (hl0 : 0 ≤ (lastS b t l).1) (hl1 : (lastS b t l).1 ≤ 4611686018427387904) (hfew : l.length < 10000) :
    Calls Tryz.prog 106 #[.pointer (some ⟨xb, 0, none⟩), .int .i64 tm, .int .i64 kd, .string da] w fun e w' => e = .returned (.int .i64 ((lastS b t l).1 + 1)) ∧ ∃ v', Lg xb base b t v' (l ++ [⟨(lastS b t l).1 + 1, tm, kd, da⟩]) w' ∧ Fr (lgF xb v) w w' ∧ (v'.ownBlock = v.ownBlock ∨ ∀ g, v'.ownBlock = some g → w.heap.size ≤ g) := by
  have HLS := Lib.hid (lg_last h)
  generalize lastS b t l = la at *
  obtain ⟨x, xt⟩ := la
  simp only at HLS hl0 hl1
  simp only
  obtain ⟨p, c, hv, _, _⟩ := h.rd
  have H := Lib.hid h
  have hxb : xb < w.heap.size := cell_lt h.c0
  have HCL := Lib.hid (fun w => clone_str da w hda)
  have q2 : ∀ q : KeptF (fun k => v.ownBlock = some k) w, q.1.cell? ⟨xb, 2, none⟩ = some (.slice p l.length c) := fun q => by
    rw [← hv]
    exact (q.2.cell (p := ⟨xb, 2, none⟩) hxb h.ne).trans h.c2
  have hwx : IntKind.i64.wrap (x + 1) = x + 1 := IntWalk.i64_in _ (by omega)
  have HV := Lib.hid hv
  clear h hda hv
  go_enter Tryz.func106, Tryz.ntmps106
  go_wp2_with fail
  with_reducible refine HLS.out.mono ?_
  rintro e w1 ⟨rfl, hb1⟩
  have HF1 : Hid (Fr (fun k => v.ownBlock = some k) w w1) := Lib.hid (Fr.of_all hb1)
  have HB1 := Lib.hid hb1
  clear hb1 HLS
  go_wp2_with fail
  refine Mix.region_mix (n := 16) (m := 7) (fun V => ∃ q : KeptF (fun k => v.ownBlock = some k) w, V = q.1) [0, 1, 2, 3, 4, 5, 6, 7, 8, 9] (by kernel_rfl) rfl rfl (by kernel_rfl) (by kernel_rfl) ⟨⟨w1.drew, HF1.out.drew⟩, rfl⟩ ?_
  repeat (refine Mix.picks_step rfl ?_; go_big_quiet_step (fail))
  refine Mix.picks_nil ?_
  intro inv
  refine sink_one (i := 10) (by kernel_rfl) rfl (by omega) inv (fun K hK => ?_)
  have HKK := Lib.hid hK
  clear hK
  go_simp
  go_at_call 109
  with_reducible refine (HCL.out _).mono ?_
  rintro e w2 ⟨rfl, hb2⟩
  have HB2 : Hid (Below w.heap.size w w2) := Lib.hid ((HB1.out.drew).trans (hb2.mono (by have := HB1.out.size; exact this)))
  have HF2 : Hid (Fr (fun k => v.ownBlock = some k) w w2) := Lib.hid (Fr.of_all HB2.out)
  clear hb2
  refine HKK.out _ _ ⟨⟨_, HF2.out⟩, rfl⟩ ?_
  clear HKK inv
  intro hS inv
  (try simp only [Act.put]); (try simp only [List.setIfInBounds_toArray]); (try simp only [List.set_cons_succ]); (try simp only [List.set_cons_zero])
  refine sink_one (i := 11) (by kernel_rfl) rfl (by omega) inv (fun K hK => ?_)
  have HKK := Lib.hid hK
  clear hK
  go_simp
  refine HKK.out _ _ ⟨⟨_, HF2.out⟩, rfl⟩ ?_
  clear HKK inv
  intro hS inv
  (try simp only [Act.put]); (try simp only [List.setIfInBounds_toArray]); (try simp only [List.set_cons_succ]); (try simp only [List.set_cons_zero])
  refine sink_one (i := 12) (by kernel_rfl) rfl (by omega) inv (fun K hK => ?_)
  have HKK := Lib.hid hK
  clear hK
  go_simp
  have HF3 : Hid (∀ o, Fr (fun k => v.ownBlock = some k) w (w2.alloc o)) := Lib.hid (fun o => HF2.out.alloc o)
  refine HKK.out _ _ ⟨⟨_, HF3.out _⟩, rfl⟩ ?_
  clear HKK inv
  intro hS inv
  (try simp only [Act.put]); (try simp only [List.setIfInBounds_toArray]); (try simp only [List.set_cons_succ]); (try simp only [List.set_cons_zero])
  refine sink_one (i := 13) (by kernel_rfl) rfl (by omega) inv (fun K hK => ?_)
  have HKK := Lib.hid hK
  clear hK
  refine RowT.step en_T rfl _ _ rfl base v l.length (rowOf ecells l) (by rw [HV.out]; rfl) (((Fr.of_all (S := fun _ => False) HB2.out).owns H.out.ow (fun _ _ h => h)).alloc _) (m := 1) (zs := [⟨x + 1, tm, kd, da⟩]) rfl (one_cells w2 [.int .i64 (x + 1), .int .i64 tm, .int .i64 kd, .string da] 25 ecells ⟨x + 1, tm, kd, da⟩ rfl) (fun h => by cases h) (by omega) (by have := HB2.out.size; have := H.out.bs; simp; omega) ?_
  intro v4 w4 hown4 hgr4 hat4
  have HF4 : Hid (Fr (fun k => v.ownBlock = some k) w w4) := Lib.hid (Fr.trans (HF3.out _) (Fr.of_grown hgr4 (S := fun k => v.ownBlock = some k) (fun _ _ h => h)) (fun i hi _ => hi))
  have hlow : v4.ownBlock = v.ownBlock ∨ ∀ g, v4.ownBlock = some g → w.heap.size ≤ g := by
    rcases hat4 with e | e
    · exact .inl e
    · refine .inr (fun g hg => ?_)
      rw [e] at hg
      injection hg with hg
      have := HB2.out.size
      simp at hg
      omega
  have hne4 : v4.ownBlock ≠ some xb := fun e => by
    rcases hlow with h9 | h9
    · exact H.out.ne (h9.symm.trans e)
    · have := h9 xb e
      omega
  have hrow := H.out.row (l' := l ++ [⟨x + 1, tm, kd, da⟩]) HF4.out (by rw [rowOf_append, List.length_append]; exact hown4) hne4 (by rw [List.length_append]; simp; omega)
  have HROW := Lib.hid hrow
  have HLOW := Lib.hid hlow
  obtain ⟨p4, c4, hv4⟩ := owns_slice hown4
  subst hv4
  have cq : w4.cell? ⟨xb, 2, none⟩ = some (.slice p l.length c) := q2 ⟨w4, HF4.out⟩
  have fq : w4.frozen? ⟨xb, 2, none⟩ = false := (HF4.out.frozen (p := ⟨xb, 2, none⟩) hxb H.out.ne).trans H.out.f2
  clear hown4 hgr4 hat4 hlow hne4 hrow
  refine HKK.out _ _ ⟨⟨_, HF4.out⟩, rfl⟩ ?_
  clear HKK inv
  intro hS inv
  (try simp only [Act.put]); (try simp only [List.setIfInBounds_toArray]); (try simp only [List.set_cons_succ]); (try simp only [List.set_cons_zero])
  refine sink_one (i := 14) (by kernel_rfl) rfl (by omega) inv (fun K hK => ?_)
  have HKK := Lib.hid hK
  clear hK
  go_simp
  refine HKK.out _ _ ⟨⟨_, HF4.out⟩, rfl⟩ ?_
  clear HKK inv
  intro hS inv
  (try simp only [Act.put]); (try simp only [List.setIfInBounds_toArray]); (try simp only [List.set_cons_succ]); (try simp only [List.set_cons_zero])
  refine sink_one (i := 15) (by kernel_rfl) rfl (by omega) inv (fun K hK => ?_)
  have HKK := Lib.hid hK
  clear hK
  go_simp
  refine HKK.out _ _ ⟨⟨_, HF4.out⟩, rfl⟩ ?_
  clear HKK inv
  intro hS inv
  (try simp only [Act.put]); (try simp only [List.setIfInBounds_toArray]); (try simp only [List.set_cons_succ]); (try simp only [List.set_cons_zero])
  refine sink_last (by kernel_rfl) rfl (by kernel_rfl) (fun K hK => ?_)
  have HKK := Lib.hid hK
  clear hK
  go_simp
  refine HKK.out _ _ ⟨rfl, ?_⟩
  clear HKK inv hS q2 cq fq
  go_wp2
  go_ret
  exact ⟨rfl, _, HROW.out.1, HROW.out.2, HLOW.out⟩
end
end Go.Proofs.YtaodldagmmephaaGreat

/- ent: members out of bytes. -/
namespace Go.Proofs.YtaodldagmmephaaGreat
open Go.RowKit

theorem int_T : RowT Tryz.prog 32 3 ncells 1 8 :=
  RowT.of Tryz.underlying32 info_int rfl (by omega) ncells_length (fun x u hu => by
    simp only [ncells, List.mem_cons, List.not_mem_nil, or_false] at hu
    subst hu
    rfl) (by omega)

section
variable {rb : Nat} {st : Option (List UInt8)} {w : World}
theorem countS_none {most : Int} (h : (varS st).2 = none) : countS most st = (0, none) := by
  unfold countS
  rw [h]
  simp

set_option maxHeartbeats 2000000 in
set_option maxRecDepth 100000 in
theorem rdr_count (most : Int) (h : Rdr rb st w) : Calls Tryz.prog 76 #[.pointer (some ⟨rb, 0, none⟩), .int .i64 most] w fun e w' => e = .returned (.int .i64 (countS most st).1) ∧ Rdr rb (countS most st).2 w' ∧ Fr (fun k => k = rb) w w' := by
  have HV := Lib.hid (rdr_var h)
  cases hn : (varS st).2 with
  | none =>
    rw [countS_none hn]
    rw [hn] at HV
    generalize (varS st).1 = x at *
    clear h hn
    go_enter Tryz.func76, Tryz.ntmps76
    go_wp2_with fail
    with_reducible refine (HV.out).mono ?_
    rintro e w1 ⟨rfl, hr1, hf1⟩
    have HO := Lib.hid (rdr_off hr1)
    have H1 := Lib.hid (And.intro hr1 hf1)
    clear hr1 hf1 HV
    go_wp2_with fail
    with_reducible refine (HO.out).mono ?_
    rintro e w2 ⟨rfl, hw2⟩
    subst hw2
    go_wp2
    go_ret
    exact ⟨rfl, H1.out.1, H1.out.2⟩
  | some l =>
    have hC : countS most st = if (varS st).1 < 0 ∨ most < (varS st).1 then (0, none) else ((varS st).1, some l) := by
      unfold countS
      rw [hn]
      have e : varS st = ((varS st).1, some l) := by rw [← hn]
      simp only [Option.isNone, Bool.false_eq_true, false_or]
      rw [← e]
    rw [hC]
    rw [hn] at HV
    generalize (varS st).1 = x at *
    clear h hn hC
    by_cases hx : x < 0
    · have d1 : decide (x < 0) = true := decide_eq_true hx
      rw [if_pos (.inl hx)]
      go_enter Tryz.func76, Tryz.ntmps76
      go_wp2_with fail
      with_reducible refine (HV.out).mono ?_
      rintro e w1 ⟨rfl, hr1, hf1⟩
      have HO := Lib.hid (rdr_off hr1)
      have H1 := Lib.hid (And.intro hr1 hf1)
      clear HV
      have f1 := hr1.f1
      obtain ⟨_, _, _, c1, _⟩ := hr1.cs
      have HS := Lib.hid (hr1.set1 (c := 4) (by omega) (by omega))
      clear hr1 hf1
      go_wp2_with fail
      with_reducible refine (HO.out).mono ?_
      rintro e w2 ⟨rfl, hw2⟩
      subst hw2
      go_wp2
      go_ret
      exact ⟨rfl, HS.out, H1.out.2.setCell (p := ⟨rb, 1, none⟩) (fun _ => rfl) _⟩
    · have d1 : decide (x < 0) = false := decide_eq_false hx
      by_cases hm : most < x
      · have d2 : decide (most < x) = true := decide_eq_true hm
        rw [if_pos (.inr hm)]
        go_enter Tryz.func76, Tryz.ntmps76
        go_wp2_with fail
        with_reducible refine (HV.out).mono ?_
        rintro e w1 ⟨rfl, hr1, hf1⟩
        have HO := Lib.hid (rdr_off hr1)
        have H1 := Lib.hid (And.intro hr1 hf1)
        clear HV
        have f1 := hr1.f1
        obtain ⟨_, _, _, c1, _⟩ := hr1.cs
        have HS := Lib.hid (hr1.set1 (c := 2) (by omega) (by omega))
        clear hr1 hf1
        go_wp2_with fail
        with_reducible refine (HO.out).mono ?_
        rintro e w2 ⟨rfl, hw2⟩
        subst hw2
        go_wp2
        go_ret
        exact ⟨rfl, HS.out, H1.out.2.setCell (p := ⟨rb, 1, none⟩) (fun _ => rfl) _⟩
      · have d2 : decide (most < x) = false := decide_eq_false hm
        rw [if_neg (by omega)]
        go_enter Tryz.func76, Tryz.ntmps76
        go_wp2_with fail
        with_reducible refine (HV.out).mono ?_
        rintro e w1 ⟨rfl, hr1, hf1⟩
        have HO := Lib.hid (rdr_off hr1)
        have H1 := Lib.hid (And.intro hr1 hf1)
        clear hr1 hf1 HV
        go_wp2_with fail
        with_reducible refine (HO.out).mono ?_
        rintro e w2 ⟨rfl, hw2⟩
        subst hw2
        go_wp2
        go_ret
        exact ⟨rfl, H1.out.1, H1.out.2⟩

set_option maxRecDepth 100000 in
theorem rdr_end (h : Rdr rb st w) : Calls Tryz.prog 78 #[.pointer (some ⟨rb, 0, none⟩)] w fun e w' => (∃ c : Int, e = .returned (.int .i64 c) ∧ (st = some [] → c = 0) ∧ (st ≠ some [] → 1 ≤ c ∧ c ≤ 99)) ∧ w' = w := by
  have HE := Lib.hid (rdr_err h)
  obtain ⟨bs, c, h0, h1, h2⟩ := h.cs
  clear h
  cases st with
  | none =>
    clear h0 h1 h2
    go_enter Tryz.func78, Tryz.ntmps78
    go_wp2_with fail
    with_reducible refine (HE.out).mono ?_
    rintro e w1 ⟨⟨c, rfl, hc⟩, hw1⟩
    subst hw1
    have hc : 1 ≤ c ∧ c ≤ 99 := hc
    have hb : (c != 0) = true := by rw [bne_iff_ne]; omega
    have HC := Lib.hid hc
    clear hc
    go_wp2
    go_ret
    exact ⟨⟨_, rfl, (fun h => by cases h), (fun _ => HC.out)⟩, rfl⟩
  | some l =>
    obtain ⟨rfl, rfl, _⟩ := h2
    cases l with
    | nil =>
      go_enter Tryz.func78, Tryz.ntmps78
      go_wp2_with fail
      with_reducible refine (HE.out).mono ?_
      rintro e w1 ⟨⟨c, rfl, hc⟩, hw1⟩
      subst hw1
      have hc : c = 0 := hc
      subst hc
      go_wp2
      go_ret
      exact ⟨⟨_, rfl, fun _ => rfl, fun h => absurd rfl h⟩, rfl⟩
    | cons x l =>
      go_enter Tryz.func78, Tryz.ntmps78
      go_wp2_with fail
      with_reducible refine (HE.out).mono ?_
      rintro e w1 ⟨⟨c, rfl, hc⟩, hw1⟩
      subst hw1
      have hc : c = 0 := hc
      subst hc
      go_wp2
      go_ret
      exact ⟨⟨_, rfl, (fun h => by cases h), (fun _ => by omega)⟩, rfl⟩
end

theorem rdr_new (b : ByteArray) (w : World) (hb : b.size ≤ 2000000) : Calls Tryz.prog 75 #[.string b] w fun e w' => ∃ rb, e = .returned (.pointer (some ⟨rb, 0, none⟩)) ∧ Rdr rb (some b.data.toList) w' ∧ w.heap.size ≤ rb ∧ Below w.heap.size w w' := by
  have HC := Lib.hid (clone_str b w hb)
  have HB := Lib.hid hb
  clear hb
  go_enter Tryz.func75, Tryz.ntmps75
  go_wp2_with fail
  with_reducible refine (HC.out).mono ?_
  rintro e w1 ⟨rfl, hb1⟩
  have HB1 := Lib.hid hb1
  clear hb1 HC
  have hc := heap_alloc_new w1 (.cells #[.string b, .int .i64 0] 146)
  have cc : ∀ k u, (#[Value.string b, .int .i64 0])[k]? = some u → (w1.alloc (.cells #[.string b, .int .i64 0] 146)).cell? ⟨w1.heap.size, k, none⟩ = some u := fun k u hu => by
    rw [cell_of_row _ _ _ _ _ _ hc]; exact hu
  have HR : Hid (Rdr w1.heap.size (some b.data.toList) (w1.alloc (.cells #[.string b, .int .i64 0] 146))) := Lib.hid ⟨⟨b.data.toList, 0, cc 0 _ rfl, cc 1 _ rfl, rfl, rfl, HB.out⟩, frozen_of_row _ _ _ _ _ hc, frozen_of_row _ _ _ _ _ hc⟩
  clear hc cc
  go_wp2
  go_ret
  exact ⟨_, rfl, HR.out, HB1.out.size, HB1.out.alloc HB1.out.size _⟩
theorem rising_take (l : List Int) : validB l = true ↔ l ≠ [] ∧ l.length ≤ 9 ∧ risingB 0 l = true := by
  unfold validB
  simp only [Bool.and_eq_true, decide_eq_true_eq]
  cases l <;> simp
theorem rising_at (l : List Int) (a : Int) (h : risingB a l = false) : ∃ i, i < l.length ∧ (64 < HL.el l i ∨ HL.el l i ≤ (if i = 0 then a else HL.el l (i - 1))) := by
  have h2 : ¬ ∀ i, i < l.length → HL.el l i ≤ 64 ∧ (if i = 0 then a else HL.el l (i - 1)) < HL.el l i := fun hh => by
    rw [(rising_el l a).2 hh] at h
    cases h
  simp only [Classical.not_forall] at h2
  obtain ⟨i, hi, h3⟩ := h2
  exact ⟨i, hi, by omega⟩
/-- Is what is ahead of place k right? -/
def rightTo (l : List Int) (k : Nat) : Prop := ∀ i, i < k → HL.el l i ≤ 64 ∧ (if i = 0 then 0 else HL.el l (i - 1)) < HL.el l i

/-- What GetMembers answers. -/
def gmPost (ans : Option (List Int)) (w : World) (e : Ending) (w' : World) : Prop :=
  ∃ (v : Value) (c : Int), e = .returned (.tuple #[v, .int .i64 c]) ∧ Below w.heap.size w w' ∧
    match ans with
    | some l => c = 0 ∧ w'.ownsRow w.heap.size 3 1 v l.length (rowOf ncells l)
    | none => 1 ≤ c ∧ c ≤ 99 ∧ v = .slice none 0 0

set_option maxHeartbeats 2000000 in
set_option maxRecDepth 100000 in
theorem get_members (b : ByteArray) (w : World) (hb : b.size ≤ 2000000) : Calls Tryz.prog 30 #[.string b] w (gmPost (gm b) w) := by
  have HN := Lib.hid (rdr_new b w hb)
  obtain ⟨ans, hans⟩ : ∃ ans, ans = gm b := ⟨_, rfl⟩
  rw [← hans]
  unfold gm at hans
  generalize b.data.toList = bs at *
  have HCN : Hid ((countS 9 (some bs)).1 ≤ 9) := Lib.hid (by
    unfold countS
    split
    · simp
    · rename_i h
      have : ¬ 9 < (varS (some bs)).1 := fun h' => h (.inr (.inr h'))
      omega)
  have HC0 := Lib.hid (fun rb w (hr : Rdr rb (some bs) w) => rdr_count 9 hr)
  generalize countS 9 (some bs) = C at *
  obtain ⟨cn, st⟩ := C
  dsimp only at hans HCN HC0
  obtain ⟨N, hN⟩ : ∃ N, N = cn.toNat := ⟨_, rfl⟩
  have HNN : Hid (cn ≤ N ∧ N ≤ 9 ∧ ((N : Int) = cn ∨ N = 0)) := Lib.hid (by have h9 : cn ≤ 9 := HCN.out; omega)
  rw [← hN] at hans
  have HA := Lib.hid hans
  clear hb hN HCN hans
  go_enter Tryz.func30, Tryz.ntmps30
  go_wp2_with fail
  with_reducible refine (HN.out).mono ?_
  rintro e w1 ⟨rb, rfl, hr1, hlo, hb1⟩
  have HC := Lib.hid (HC0.out rb w1 hr1)
  have HB1 := Lib.hid hb1
  have HLO := Lib.hid hlo
  clear hr1 hb1 hlo HN
  go_wp2_with fail
  with_reducible refine (HC.out).mono ?_
  rintro e w2 ⟨rfl, hr2, hf2⟩
  have HB2 : Hid (Below w.heap.size w w2) := Lib.hid (HB1.out.trans (hf2.below HB1.out.size (fun i hi => by have := HLO.out; omega)))
  have HR2 := Lib.hid hr2
  clear hr2 hf2 HC HC0
  go_wp2
  go_loopw [5, 14] (fun lv iv wr => ∃ k : Nat, k ≤ N ∧ iv = .int .i64 k ∧ Hid (wr.ownsRow w.heap.size 3 1 lv k (rowOf ncells (readS st k).1) ∧ Rdr rb (readS st k).2 wr ∧ lv.ownBlock ≠ some rb ∧ Below w.heap.size w wr)) (fun _ iv _ => N - (intOf iv).toNat)
  case atStart => exact ⟨0, Nat.zero_le _, rfl, Lib.hid ⟨World.ownsRow_nil _ _ _ _, HR2.out, (fun h => by cases h), HB2.out⟩⟩
  case round =>
    clear HR2 HB2 HB1
    obtain ⟨k, hk, rfl, HR⟩ := hrel
    by_cases hlt : (k : Int) < cn
    · have hkN : k < N := by have := HNN.out; omega
      have HV := Lib.hid (rdr_var HR.out.2.1)
      have HX : Hid ((readS st (k + 1)).1 = (readS st k).1 ++ [(varS (readS st k).2).1] ∧ (readS st (k + 1)).2 = (varS (readS st k).2).2) := Lib.hid ⟨rfl, rfl⟩
      have HS := Lib.hid (readS_len st k)
      obtain ⟨p, c, hv⟩ := owns_slice HR.out.1
      subst hv
      generalize (readS st k).1 = L at *
      generalize (varS (readS st k).2).1 = x at *
      generalize (varS (readS st k).2).2 = st' at *
      have hk9 : k ≤ 9 := by have := HNN.out; omega
      go_wp2_with fail
      with_reducible refine (HV.out).mono ?_
      rintro e w3 ⟨rfl, hr3, hf3⟩
      have HB3 : Hid (Below w.heap.size w w3) := Lib.hid (HR.out.2.2.2.trans (hf3.below HR.out.2.2.2.size (fun i hi => by have := HLO.out; omega)))
      have HO3 := Lib.hid (hf3.owns HR.out.1 (fun g hg e => HR.out.2.2.1 (by rw [hg, e])))
      have HR3 := Lib.hid hr3
      have HRD := Lib.hid (one_cells w3 [.int .i64 x] 3 ncells x rfl)
      have HNE := Lib.hid HR.out.2.2.1
      clear hr3 hf3 HV HR
      go_wp2_with (at_builtin; refine RowT.app int_T rfl _ _ rfl w.heap.size (.slice p k c) k (rowOf ncells L) rfl (HO3.out.alloc _) rfl HRD.out (fun h => by cases h) (by omega) (by have := HB3.out.size; simp; omega) ?_; intro v4 w4 hown4 hgr4 hat4)
      have HF4 : Hid (Fr (fun i => (Value.slice p k c).ownBlock = some i) w3 w4) := Lib.hid (Fr.trans ((Fr.refl (fun i => (Value.slice p k c).ownBlock = some i) w3).alloc _) (Fr.of_grown hgr4 (S := fun i => (Value.slice p k c).ownBlock = some i) (fun _ _ h => h)) (fun i hi _ => hi))
      have hne4 : v4.ownBlock ≠ some rb := fun e => by
        rcases hat4 with h | h
        · exact HNE.out (h.symm.trans e)
        · rw [h] at e
          injection e with e
          have := HR3.out.lt
          simp at e
          omega
      have HR4 := Lib.hid (HR3.out.keep HF4.out HNE.out)
      have HB4 : Hid (Below w.heap.size w w4) := Lib.hid (HB3.out.trans (HF4.out.below HB3.out.size (fun i hi => (HO3.out.lt i hi).1)))
      have HOW4 := Lib.hid hown4
      have HNE4 := Lib.hid hne4
      clear hown4 hgr4 hat4 hne4
      go_wp2
      go_roundw
      case rel => exact ⟨k + 1, by omega, by go_num, Lib.hid ⟨by rw [HX.out.1, rowOf_append]; exact HOW4.out, by rw [HX.out.2]; exact HR4.out, HNE4.out, HB4.out⟩⟩
      case measure => simp [intOf]; omega
    · obtain rfl : k = N := by have := HNN.out; omega
      have HE := Lib.hid (rdr_end HR.out.2.1)
      have HS := Lib.hid (readS_len st k)
      have hk9 : k ≤ 9 := HNN.out.2.1
      have HO := Lib.hid (And.intro HR.out.1 HR.out.2.2.2)
      obtain ⟨p, c, hv⟩ := owns_slice HR.out.1
      subst hv
      generalize readS st k = RR at *
      obtain ⟨L, st'⟩ := RR
      dsimp only at HA HO HE HS
      clear HR HNN
      by_cases hst : st' = some []
      · have HE2 : Hid (Calls Tryz.prog 78 #[.pointer (some ⟨rb, 0, none⟩)] wr fun e w' => e = .returned (.int .i64 0) ∧ w' = wr) := Lib.hid (HE.out.mono (by
          rintro e w' ⟨⟨c, rfl, h1, _⟩, rfl⟩
          rw [h1 hst]
          exact ⟨rfl, rfl⟩))
        clear HE
        go_wp2_with fail
        with_reducible refine (HE2.out).mono ?_
        rintro e w3 ⟨rfl, hw3⟩
        subst hw3
        by_cases hk0 : k = 0
        · have hkb : ((k : Int) == 0) = true := by simp [hk0]
          have HN : Hid (ans = none) := Lib.hid (by
            rw [HA.out, if_neg (fun h => by
              have := (rising_take L).1 h.2
              exact this.1 (List.eq_nil_of_length_eq_zero (by rw [HS.out, hk0])))])
          clear hk0
          go_wp2
          go_ret2
          refine ⟨_, _, rfl, HO.out.2, ?_⟩
          rw [HN.out]
          exact ⟨by omega, by omega, rfl⟩
        · have hkb : ((k : Int) == 0) = false := by simp [hk0]
          have hr : RdI w3 w3.heap.size p k L := RdI.of_own HO.out.1 HS.out
          obtain ⟨g, o, hp, hg, hcell⟩ := hr.2 (by omega)
          subst hp
          clear hr hkb
          have hkb : ((k : Int) == 0) = false := by simp [hk0]
          have HL0 : Hid (risingB 0 L = true ∨ risingB 0 L = false) := Lib.hid (by cases risingB 0 L <;> simp)
          have HAN := Lib.hid (And.intro HA.out (And.intro hst hk0))
          clear HA hst hk0 HE2 hg
          go_wp2
          go_loopw [7, 32] (fun lv iv wx => ∃ j : Nat, j ≤ k ∧ iv = .int .i64 j ∧ lv = .int .i64 (if j = 0 then 0 else HL.el L (j - 1)) ∧ Hid (rightTo L j) ∧ wx = w3) (fun _ iv _ => k - (intOf iv).toNat)
          case atStart => exact ⟨0, Nat.zero_le _, rfl, rfl, Lib.hid (fun i hi => absurd hi (Nat.not_lt_zero i)), rfl⟩
          case round =>
            obtain ⟨j, hj, rfl, rfl, HRT, hwx⟩ := hrel
            subst hwx
            obtain ⟨la, hla⟩ : ∃ la, la = (if j = 0 then 0 else HL.el L (j - 1)) := ⟨_, rfl⟩
            rw [← hla]
            by_cases hltj : j < k
            · have hltI : (j : Int) < (k : Int) := by omega
              have d1 := hcell j hltj
              clear hcell
              have HX : Hid (rightTo L (j + 1) ↔ rightTo L j ∧ HL.el L j ≤ 64 ∧ la < HL.el L j) := Lib.hid (by
                rw [hla]
                constructor
                · intro h
                  exact ⟨fun i hi => h i (by omega), h j (by omega)⟩
                · rintro ⟨h1, h2⟩ i hi
                  by_cases e : i = j
                  · subst e; exact h2
                  · exact h1 i (by omega))
              have HX2 : Hid (¬ (HL.el L j ≤ 64 ∧ la < HL.el L j) → risingB 0 L = false) := Lib.hid (fun h => by
                rcases HL0.out with e | e
                · have := (rising_el L 0).1 e j (by rw [HS.out]; exact hltj)
                  rw [← hla] at this
                  exact absurd this h
                · exact e)
              have HEL : Hid (HL.el L j = (if j + 1 = 0 then 0 else HL.el L (j + 1 - 1))) := Lib.hid (by simp)
              generalize HL.el L j = x at *
              clear hla
              by_cases hxl : la < x
              · have e1 : decide (x ≤ la) = false := decide_eq_false (by omega)
                by_cases hx6 : x ≤ 64
                · have e2 : decide (64 < x) = false := decide_eq_false (by omega)
                  have HG := Lib.hid (HX.out.2 ⟨HRT.out, hx6, hxl⟩)
                  clear hxl hx6
                  go_wp2
                  go_roundw
                  case rel => exact ⟨j + 1, by omega, by go_num, by rw [← HEL.out], HG, trivial⟩
                  case measure => simp [intOf]; omega
                · have e2 : decide (64 < x) = true := decide_eq_true (by omega)
                  have HF := Lib.hid (HX2.out (fun h => hx6 h.1))
                  clear hxl hx6
                  go_wp2
                  go_ret2
                  refine ⟨_, _, rfl, HO.out.2, ?_⟩
                  rw [HAN.out.1, if_neg (fun h => by have := ((rising_take L).1 h.2).2.2; rw [HF.out] at this; cases this)]
                  exact ⟨by omega, by omega, rfl⟩
              · have e1 : decide (x ≤ la) = true := decide_eq_true (by omega)
                have HF := Lib.hid (HX2.out (fun h => hxl h.2))
                clear hxl
                go_wp2
                go_ret2
                refine ⟨_, _, rfl, HO.out.2, ?_⟩
                rw [HAN.out.1, if_neg (fun h => by have := ((rising_take L).1 h.2).2.2; rw [HF.out] at this; cases this)]
                exact ⟨by omega, by omega, rfl⟩
            · obtain rfl : j = k := by omega
              have HV : Hid (validB L = true) := Lib.hid ((rising_take L).2 ⟨fun e => HAN.out.2.2 (by rw [← HS.out, e]; rfl), by rw [HS.out]; exact hk9, (rising_el L 0).2 (fun i hi => HRT.out i (by rw [HS.out] at hi; exact hi))⟩)
              clear hla
              go_wp2
              go_ret2
              refine ⟨_, _, rfl, HO.out.2, ?_⟩
              rw [HAN.out.1, if_pos ⟨HAN.out.2.1, HV.out⟩]
              exact ⟨rfl, by rw [HS.out]; exact HO.out.1⟩
      · have HN : Hid (ans = none) := Lib.hid (by rw [HA.out, if_neg (fun h => hst h.1)])
        go_wp2_with fail
        with_reducible refine (HE.out).mono ?_
        rintro e w3 ⟨⟨c, rfl, _, h2⟩, hw3⟩
        subst hw3
        have HC := Lib.hid (h2 hst)
        have hcb : (c != 0) = true := by rw [bne_iff_ne]; have := h2 hst; omega
        clear h2 hst
        go_wp2
        go_ret2
        refine ⟨_, _, rfl, HO.out.2, ?_⟩
        rw [HN.out]
        exact ⟨HC.out.1, HC.out.2, rfl⟩
end Go.Proofs.YtaodldagmmephaaGreat

