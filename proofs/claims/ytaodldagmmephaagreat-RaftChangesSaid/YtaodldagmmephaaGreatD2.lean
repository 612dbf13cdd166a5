/- Merged texts: Sk1 Sk2 Re1 Ch1 Ch2. -/
import Derived.Test.YtaodldagmmephaaGreatB6
import Derived.Test.YtaodldagmmephaaGreatA9
import Derived.Test.YtaodldagmmephaaGreatC1
import Derived.Test.YtaodldagmmephaaGreatD1
/- raft, plain: a grown leader that hears answers. -/
namespace Go.Proofs.YtaodldagmmephaaGreat
open Go.RowKit Go.Maps
namespace RF
/-- How many are at x: the leader, and members 2 .. m + 1. -/
def kc (A : List Int) (x : Int) : Nat → Nat
  | 0 => 1
  | m + 1 => if x ≤ HL.el A (m + 2) then kc A x m + 1 else kc A x m
/-- What stays of a grown leader. -/
structure Lead (n : Nat) (s : RS) : Prop where
  n1 : 1 ≤ n
  n5 : n ≤ 5
  role : s.role = 2
  term : s.term = 1
  id : s.id = 1
  b : s.b = 0
  t : s.t = 0
  tms : ∀ e ∈ s.l, e.tm = 1 ∧ e.kd ≠ 2
  snap : s.snap = idsN n
  last : s.last = (s.l.length : Int)
  rnd : 0 ≤ s.round
structure Heard (n : Nat) (s0 s : RS) (A R : List Int) : Prop where
  core : s.core = s0.core
  ps : ∀ i : Nat, 2 ≤ i → i ≤ n → ∃ p, pget s.ps (i : Int) = some p ∧ p.mt = HL.el A i ∧ p.rd = HL.el R i
  al : ∀ i, 0 ≤ HL.el A i ∧ HL.el A i ≤ s0.last
  rl : ∀ i, 0 ≤ HL.el R i ∧ HL.el R i ≤ s0.round
  len : A.length = 6 ∧ R.length = 6
section
variable {n : Nat} {s0 s : RS} {A R : List Int}
theorem ids_mem (n : Nat) (z : Int) : z ∈ idsN n ↔ ∃ k : Nat, k < n ∧ z = (k : Int) + 1 := by
  unfold idsN
  rw [List.mem_map]
  constructor
  · rintro ⟨k, hk, rfl⟩; exact ⟨k, List.mem_range.1 hk, rfl⟩
  · rintro ⟨k, hk, rfl⟩; exact ⟨k, List.mem_range.2 hk, rfl⟩
theorem Lead.all (L : Lead n s0) : s0.all = idsN n := by rw [all_snap (fun e he => (L.tms e he).2), L.snap]
theorem Lead.oth (L : Lead n s0) (z : Int) : z ∈ s0.others ↔ ∃ i : Nat, 2 ≤ i ∧ i ≤ n ∧ z = (i : Int) := by
  unfold RS.others
  rw [L.all, L.id, List.mem_filter, ids_mem]
  constructor
  · rintro ⟨⟨k, hk, rfl⟩, h2⟩
    have h3 : ¬ (k : Int) + 1 = 1 := by simpa using h2
    exact ⟨k + 1, by omega, by omega, by omega⟩
  · rintro ⟨i, h2, hi, rfl⟩
    refine ⟨⟨i - 1, by omega, by omega⟩, ?_⟩
    have : ¬ (i : Int) = 1 := by omega
    simp [this]
theorem Heard.lead (L : Lead n s0) (H : Heard n s0 s A R) : Lead n s := by
  obtain ⟨a1, a2, a3, a4, a5, a6, a7, a8, a9, a10⟩ := Core.parts H.core
  have a11 := (Core.all H.core).2.2.1
  exact ⟨L.n1, L.n5, a1.trans L.role, a2.trans L.term, a4.trans L.id, a7.trans L.b, a8.trans L.t, fun e he => L.tms e (by rw [← a6]; exact he), a9.trans L.snap, by rw [a11, a6]; exact L.last, by rw [a5]; exact L.rnd⟩
theorem Heard.knows (L : Lead n s0) (H : Heard n s0 s A R) : s.knows := fun z hz => by
  obtain ⟨i, h2, hi, rfl⟩ := ((H.lead L).oth z).1 hz
  obtain ⟨p, hp, _⟩ := H.ps i h2 hi
  exact ⟨p, hp⟩
theorem kc_len (g : Int → Int) (A : List Int) (x : Int) (h1 : x ≤ g 1) : ∀ m : Nat, (∀ i : Nat, i < m → g ((i : Int) + 2) = HL.el A (i + 2)) → ((idsN (m + 1)).filter fun z => decide (x ≤ g z)).length = kc A x m
  | 0, _ => by
    have : idsN 1 = [1] := rfl
    rw [this]
    simp [h1, kc]
  | m + 1, hg => by
    rw [ids_succ, List.filter_append, List.length_append, kc_len g A x h1 m (fun i hi => hg i (by omega))]
    have e1 : ((m + 1 : Nat) : Int) + 1 = (m : Int) + 2 := by omega
    rw [e1]
    have e2 := hg m (by omega)
    show _ = (if x ≤ HL.el A (m + 2) then kc A x m + 1 else kc A x m)
    by_cases hx : x ≤ HL.el A (m + 2)
    · rw [if_pos hx]
      simp [e2, hx]
    · rw [if_neg hx]
      simp [e2, hx]
theorem Heard.pr (L : Lead n s0) (H : Heard n s0 s A R) (own : Int) (of : Pr → Int) (B : List Int) (hB : ∀ i : Nat, 2 ≤ i → i ≤ n → ∀ p, pget s.ps (i : Int) = some p → of p = HL.el B i) (i : Nat) (h2 : 2 ≤ i) (hi : i ≤ n) : s.has own of (i : Int) = HL.el B i := by
  unfold RS.has
  rw [if_neg (by rw [(H.lead L).id]; omega), (H.knows L).all]
  obtain ⟨p, hp, _⟩ := H.ps i h2 hi
  unfold RS.pr
  rw [hp]
  exact hB i h2 hi p hp
theorem Heard.far_of (L : Lead n s0) (H : Heard n s0 s A R) (own : Int) (of : Pr → Int) (B : List Int) (hB : ∀ i : Nat, 2 ≤ i → i ≤ n → ∀ p, pget s.ps (i : Int) = some p → of p = HL.el B i) (x : Int) (hx : x ≤ own) : x ≤ s.far own of ↔ n / 2 < kc B x (n - 1) := by
  have LL := H.lead L
  have hv : CL.Valid s.all := by rw [LL.all]; exact ids_valid n L.n1 (by have := L.n5; omega)
  rw [far_le hv own of x, LL.all, ids_len]
  have h9 := kc_len (s.has own of) B x (by unfold RS.has; rw [if_pos LL.id.symm]; exact hx) (n - 1) (fun i hi => by
    have := H.pr L own of B hB (i + 2) (by omega) (by have := L.n1; omega)
    rw [← this]
    congr 1)
  rw [show n - 1 + 1 = n by have := L.n1; omega] at h9
  rw [h9]
  unfold CL.quo
  rw [if_neg (by have := L.n1; omega)]
  omega
/-- Nobody is beyond what the leader itself is at. -/
theorem Heard.far_top (L : Lead n s0) (H : Heard n s0 s A R) (own : Int) (of : Pr → Int) (B : List Int) (hB : ∀ i : Nat, 2 ≤ i → i ≤ n → ∀ p, pget s.ps (i : Int) = some p → of p = HL.el B i) (hB2 : ∀ i, HL.el B i ≤ own) : s.far own of ≤ own := by
  have LL := H.lead L
  have hv : CL.Valid s.all := by rw [LL.all]; exact ids_valid n L.n1 (by have := L.n5; omega)
  apply Classical.byContradiction
  intro hc
  have h1 := (far_le hv own of (own + 1)).1 (by omega)
  rw [List.filter_eq_nil_iff.2 (fun z hz => by
    have : s.has own of z ≤ own := by
      by_cases hz1 : z = 1
      · unfold RS.has; rw [if_pos (by rw [LL.id]; exact hz1)]; exact Int.le_refl _
      · rw [LL.all] at hz
        obtain ⟨k, hk, rfl⟩ := (ids_mem n z).1 hz
        have := H.pr L own of B hB (k + 1) (by omega) (by omega)
        rw [show ((k + 1 : Nat) : Int) = (k : Int) + 1 by omega] at this
        rw [this]
        exact hB2 _
    simp
    omega)] at h1
  rw [LL.all, ids_len] at h1
  unfold CL.quo at h1
  rw [if_neg (by have := L.n1; omega)] at h1
  simp at h1
theorem kc_all (B : List Int) (x : Int) (h : ∀ i, x ≤ HL.el B i) : ∀ m, kc B x m = m + 1
  | 0 => rfl
  | m + 1 => by
    unfold kc
    rw [if_pos (h _), kc_all B x h m]
theorem Heard.far_low (L : Lead n s0) (H : Heard n s0 s A R) (own : Int) (of : Pr → Int) (B : List Int) (hB : ∀ i : Nat, 2 ≤ i → i ≤ n → ∀ p, pget s.ps (i : Int) = some p → of p = HL.el B i) (hB2 : ∀ i, 0 ≤ HL.el B i) (ho : 0 ≤ own) : 0 ≤ s.far own of := by
  rw [H.far_of L own of B hB 0 ho, kc_all B 0 hB2]
  have := L.n1
  omega
theorem kc_mono {B B' : List Int} (h : ∀ i, HL.el B i ≤ HL.el B' i) (x : Int) : ∀ m, kc B x m ≤ kc B' x m
  | 0 => Nat.le_refl _
  | m + 1 => by
    have ih := kc_mono h x m
    have h1 := h (m + 2)
    unfold kc
    by_cases hx : x ≤ HL.el B (m + 2)
    · rw [if_pos hx, if_pos (by omega)]; omega
    · rw [if_neg hx]
      split <;> omega
theorem Heard.mtB (H : Heard n s0 s A R) : ∀ i : Nat, 2 ≤ i → i ≤ n → ∀ p, pget s.ps (i : Int) = some p → p.mt = HL.el A i := fun i h2 hi p hp => by
  obtain ⟨q, hq, h3, _⟩ := H.ps i h2 hi
  rw [hp] at hq
  injection hq with hq
  rw [hq]
  exact h3
theorem Heard.rdB (H : Heard n s0 s A R) : ∀ i : Nat, 2 ≤ i → i ≤ n → ∀ p, pget s.ps (i : Int) = some p → p.rd = HL.el R i := fun i h2 hi p hp => by
  obtain ⟨q, hq, _, h3⟩ := H.ps i h2 hi
  rw [hp] at hq
  injection hq with hq
  rw [hq]
  exact h3
/-- How far a quorum is in the log: what stands, whatever core bears it. -/
theorem Heard.far_eq {s' : RS} (L : Lead n s0) (H : Heard n s0 s A R) (H' : Heard n s0 s' A R) : s.far s.last Pr.mt = s'.far s'.last Pr.mt := by
  have e1 : s.last = s0.last := (Core.all H.core).2.2.1
  have e2 : s'.last = s0.last := (Core.all H'.core).2.2.1
  rw [e1, e2]
  have t1 := H.far_top L s0.last Pr.mt A H.mtB (fun i => (H.al i).2)
  have t2 := H'.far_top L s0.last Pr.mt A H'.mtB (fun i => (H.al i).2)
  apply Int.le_antisymm
  · exact (H'.far_of L s0.last Pr.mt A H'.mtB _ t1).2 ((H.far_of L s0.last Pr.mt A H.mtB _ t1).1 (Int.le_refl _))
  · exact (H.far_of L s0.last Pr.mt A H.mtB _ t2).2 ((H'.far_of L s0.last Pr.mt A H'.mtB _ t2).1 (Int.le_refl _))
theorem Heard.far_mono {s' : RS} {A' R' : List Int} (L : Lead n s0) (H : Heard n s0 s A R) (H' : Heard n s0 s' A' R') (hA : ∀ i, HL.el A i ≤ HL.el A' i) : s.far s.last Pr.mt ≤ s'.far s'.last Pr.mt := by
  have e1 : s.last = s0.last := (Core.all H.core).2.2.1
  have e2 : s'.last = s0.last := (Core.all H'.core).2.2.1
  rw [e1, e2]
  have t1 := H.far_top L s0.last Pr.mt A H.mtB (fun i => (H.al i).2)
  have h1 := (H.far_of L s0.last Pr.mt A H.mtB _ t1).1 (Int.le_refl _)
  exact (H'.far_of L s0.last Pr.mt A' H'.mtB _ t1).2 (Nat.lt_of_lt_of_le h1 (kc_mono hA _ _))
theorem pset_get {ps : List (Int × Pr)} {f i : Int} {p q : Pr} (h : pget ps i = some q) : pget (pset ps f p) i = some (if i = f then p else q) := by
  unfold pget pset at *
  rw [List.find?_map, Option.map_map]
  rw [Option.map_eq_some_iff] at h
  obtain ⟨x, hx, rfl⟩ := h
  have h1 := List.find?_some hx
  have h2 : x.1 = i := by simpa using h1
  have e : ((fun x : Int × Pr => x.1 == i) ∘ fun x => if (x.1 == f) = true then (f, p) else x) = fun x => x.1 == i := by
    funext y
    show ((if (y.1 == f) = true then (f, p) else y).1 == i) = (y.1 == i)
    by_cases hy : y.1 = f
    · simp [hy]
    · simp [hy]
  rw [e, hx]
  show some ((if (x.1 == f) = true then (f, p) else x).2) = _
  by_cases hf : i = f
  · rw [if_pos (by simp [h2, hf]), if_pos hf]
  · rw [if_neg (by rw [h2]; simpa using hf), if_neg hf]
theorem term_one (L : Lead n s0) {x : Int} (h1 : 1 ≤ x) (h2 : x ≤ s0.last) : termS s0.b s0.t s0.l x = some 1 := by
  have h3 := L.last
  unfold termS atS
  rw [L.b, L.t, if_neg (by omega), if_neg (by omega)]
  have hk : (x - 0 - 1).toNat < s0.l.length := by omega
  have hm : HL.el s0.l (x - 0 - 1).toNat ∈ s0.l := by
    unfold HL.el
    rw [List.getD_eq_getElem?_getD, List.getElem?_eq_getElem hk]
    exact List.getElem_mem hk
  show some (HL.el s0.l (x - 0 - 1).toNat).tm = some 1
  rw [(L.tms _ hm).1]
theorem el_set {l : List Int} {k j : Nat} {v : Int} (hk : k < l.length) : HL.el (l.set k v) j = if j = k then v else HL.el l j := by
  unfold HL.el
  rw [List.getD_eq_getElem?_getD, List.getD_eq_getElem?_getD]
  by_cases e : j = k
  · subst e
    rw [List.getElem?_set_self hk, if_pos rfl]
    rfl
  · rw [List.getElem?_set_ne (fun h => e h.symm), if_neg e]
theorem send_ps (s : RS) (i : Int) {p : Pr} (h : pget s.ps i = some p) : (s.send i).ps = s.ps ∧ (s.send i).commit = s.commit := by
  have hk : s.know i = s := know_id h
  unfold RS.send
  rw [hk]
  unfold RS.send1
  split <;> exact ⟨rfl, rfl⟩
/-- What a yes of member f makes. -/
def upd (A : List Int) (f : Nat) (x : Int) : List Int := A.set f (max (HL.el A f) x)
theorem el_upd {f j : Nat} {x : Int} (hA : A.length = 6) (hf : f ≤ 5) : HL.el (upd A f x) j = if j = f then max (HL.el A f) x else HL.el A j := by
  unfold upd
  rw [el_set (by omega)]
theorem Heard.step (L : Lead n s0) (H : Heard n s0 s A R) (hc : s.commit = s.far s.last Pr.mt) (f : Nat) (hf2 : 2 ≤ f) (hf5 : f ≤ 5) (ix rd : Int) (h0 : 0 ≤ ix) (hrd : 0 ≤ rd) :
    Heard n s0 (s.stepF (smg 4 f 1 ix rd true)) (if f ≤ n ∧ ix ≤ s0.last then upd A f ix else A) (if f ≤ n ∧ ix ≤ s0.last ∧ rd ≤ s0.round then upd R f rd else R) ∧
      (s.stepF (smg 4 f 1 ix rd true)).commit = (s.stepF (smg 4 f 1 ix rd true)).far (s.stepF (smg 4 f 1 ix rd true)).last Pr.mt ∧ s.commit ≤ (s.stepF (smg 4 f 1 ix rd true)).commit := by
  have LL := H.lead L
  have elast : s.last = s0.last := (Core.all H.core).2.2.1
  have ernd : s.round = s0.round := (Core.parts H.core).2.2.2.2.1
  have hh : s.heeds (smg 4 f 1 ix rd true) := by
    refine ⟨LL.id.symm, ?_, ?_, ?_, ?_, ?_, ?_, ?_⟩
    · show (1 : Int) ≤ (f : Int); omega
    · show (f : Int) ≤ 64; omega
    · rw [LL.id]; show (f : Int) ≠ 1; omega
    · show (1 : Int) ≤ 4; omega
    · show (4 : Int) ≤ 6; omega
    · show (1 : Int) ≤ 1; omega
    · show (1 : Int) ≤ _; omega
  have hst : s.step (smg 4 f 1 ix rd true) = s.appRes (smg 4 f 1 ix rd true) := by
    unfold RS.step RS.step0 RS.turn
    rw [if_pos hh, if_neg (by rw [LL.term]; show ¬ (1 : Int) < 1; omega), if_neg (by rw [LL.term]; show ¬ (1 : Int) < 1; omega)]
    rfl
  have hfin : ∀ (z : RS) (A' R' : List Int), Heard n s0 z A' R' → z.commit = z.far z.last Pr.mt → Heard n s0 z.fin A' R' ∧ z.fin.commit = z.fin.far z.fin.last Pr.mt := fun z A' R' Hz hz => by
    have Hf : Heard n s0 z.fin A' R' := ⟨Hz.core, Hz.ps, Hz.al, Hz.rl, Hz.len⟩
    exact ⟨Hf, by rw [← Hz.far_eq L Hf]; exact hz⟩
  have hstay : s.step (smg 4 f 1 ix rd true) = s → ¬ (f ≤ n ∧ ix ≤ s0.last) → Heard n s0 (s.stepF (smg 4 f 1 ix rd true)) (if f ≤ n ∧ ix ≤ s0.last then upd A f ix else A) (if f ≤ n ∧ ix ≤ s0.last ∧ rd ≤ s0.round then upd R f rd else R) ∧
      (s.stepF (smg 4 f 1 ix rd true)).commit = (s.stepF (smg 4 f 1 ix rd true)).far (s.stepF (smg 4 f 1 ix rd true)).last Pr.mt ∧ s.commit ≤ (s.stepF (smg 4 f 1 ix rd true)).commit := fun e hn => by
    unfold RS.stepF
    rw [e, if_neg hn, if_neg (fun h => hn ⟨h.1, h.2.1⟩)]
    obtain ⟨h1, h2⟩ := hfin s A R H hc
    exact ⟨h1, h2, Int.le_refl _⟩
  by_cases hfn : f ≤ n
  case neg =>
    refine hstay ?_ (fun h => hfn h.1)
    rw [hst]
    unfold RS.appRes
    rw [if_pos (.inr (fun h => by
      obtain ⟨i, _, hi, e⟩ := (LL.oth _).1 h
      have e : (f : Int) = (i : Int) := e
      omega))]
  case pos =>
  obtain ⟨p, hp, hpm, hpr⟩ := H.ps f hf2 hfn
  have hkn : s.know (f : Int) = s := know_id hp
  have hap : s.appRes (smg 4 f 1 ix rd true) = if ix < 0 ∨ s.last < ix then s else s.appYes (smg 4 f 1 ix rd true) := by
    unfold RS.appRes
    rw [if_neg (fun h => h.elim (fun h => h LL.role) (fun h => h ((LL.oth _).2 ⟨f, hf2, hfn, rfl⟩)))]
    show (if true = true ∧ (ix < 0 ∨ s.last < ix) then s.know (f : Int) else if true = false then (s.know (f : Int)).appNo (smg 4 f 1 ix rd true) else (s.know (f : Int)).appYes (smg 4 f 1 ix rd true)) = _
    rw [hkn]
    simp
  by_cases hil : ix ≤ s0.last
  case neg =>
    refine hstay ?_ (fun h => hil h.2)
    rw [hst, hap, if_pos (.inr (by rw [elast]; omega))]
  case pos =>
  have hpr2 : s.pr (f : Int) = p := by unfold RS.pr; rw [hp]; rfl
  rw [if_pos ⟨hfn, hil⟩]
  have hst2 : s.step (smg 4 f 1 ix rd true) = s.appYes (smg 4 f 1 ix rd true) := by rw [hst, hap, if_neg (by rw [elast]; omega)]
  -- what is known of the peer now
  obtain ⟨P, hP⟩ : ∃ P : Pr, P = { s.heard (smg 4 f 1 ix rd true) with mt := max (s.heard (smg 4 f 1 ix rd true)).mt ix, nx := max (s.heard (smg 4 f 1 ix rd true)).nx (max (s.heard (smg 4 f 1 ix rd true)).mt ix + 1) } := ⟨_, rfl⟩
  have hPm : P.mt = max (HL.el A f) ix := by
    rw [hP]
    show max (s.heard (smg 4 f 1 ix rd true)).mt ix = _
    congr 1
    unfold RS.heard
    show (if rd ≤ s.round then ({ s.pr (f : Int) with rd := max (s.pr (f : Int)).rd rd } : Pr) else s.pr (f : Int)).mt = _
    rw [hpr2]
    split <;> exact hpm
  have hPr : P.rd = if rd ≤ s0.round then max (HL.el R f) rd else HL.el R f := by
    rw [hP]
    show (s.heard (smg 4 f 1 ix rd true)).rd = _
    unfold RS.heard
    show (if rd ≤ s.round then ({ s.pr (f : Int) with rd := max (s.pr (f : Int)).rd rd } : Pr) else s.pr (f : Int)).rd = _
    rw [hpr2, ernd]
    by_cases hr : rd ≤ s0.round
    · rw [if_pos hr, if_pos hr]
      show max p.rd rd = _
      rw [hpr]
    · rw [if_neg hr, if_neg hr]
      exact hpr
  obtain ⟨A', hA'⟩ : ∃ A', A' = upd A f ix := ⟨_, rfl⟩
  obtain ⟨R', hR'⟩ : ∃ R', R' = (if f ≤ n ∧ ix ≤ s0.last ∧ rd ≤ s0.round then upd R f rd else R) := ⟨_, rfl⟩
  rw [← hA', ← hR']
  have eA : ∀ j, HL.el A' j = if j = f then max (HL.el A f) ix else HL.el A j := fun j => by rw [hA']; exact el_upd H.len.1 hf5
  have eR : ∀ j, HL.el R' j = if j = f then (if rd ≤ s0.round then max (HL.el R f) rd else HL.el R f) else HL.el R j := fun j => by
    rw [hR']
    by_cases hr : rd ≤ s0.round
    · rw [if_pos ⟨hfn, hil, hr⟩, if_pos hr]; exact el_upd H.len.2 hf5
    · rw [if_neg (fun h => hr h.2.2), if_neg hr]
      split
      · rename_i e; rw [e]
      · rfl
  have Hz : ∀ z : RS, z.core = s0.core → (∀ i q, pget s.ps i = some q → pget z.ps i = some (if i = (f : Int) then P else q)) → Heard n s0 z A' R' := fun z hzc hzp => by
    refine ⟨hzc, fun i h2 hi => ?_, fun j => ?_, fun j => ?_, ?_⟩
    · obtain ⟨q, hq, hq1, hq2⟩ := H.ps i h2 hi
      refine ⟨_, hzp _ _ hq, ?_, ?_⟩
      · rw [eA i]
        by_cases e : i = f
        · rw [if_pos (by omega), if_pos e]; exact hPm
        · rw [if_neg (by omega), if_neg e]; exact hq1
      · rw [eR i]
        by_cases e : i = f
        · rw [if_pos (by omega), if_pos e]; exact hPr
        · rw [if_neg (by omega), if_neg e]; exact hq2
    · rw [eA j]
      have h1 := H.al j
      have h2 := H.al f
      split <;> omega
    · rw [eR j]
      have h1 := H.rl j
      have h2 := H.rl f
      split
      · split <;> omega
      · exact h1
    · constructor
      · rw [hA']; unfold upd; rw [List.length_set]; exact H.len.1
      · rw [hR']; split
        · unfold upd; rw [List.length_set]; exact H.len.2
        · exact H.len.2
  have Hz0 : Heard n s0 (s.setPr (f : Int) P) A' R' := Hz _ ((core_setPr s _ _).trans H.core) (fun i q hq => pset_get hq)
  have hin : (s.setPr (f : Int) P).id ∈ (s.setPr (f : Int) P).all := by
    rw [(Hz0.lead L).all, (Hz0.lead L).id]
    exact ids_one n L.n1
  have hcm : s.far s.last Pr.mt ≤ (s.setPr (f : Int) P).far (s.setPr (f : Int) P).last Pr.mt := H.far_mono L Hz0 (fun i => by rw [eA i]; split <;> rename_i e <;> (try rw [e]) <;> omega)
  have hF : (s.setPr (f : Int) P).count = (s.setPr (f : Int) P).count1 ((s.setPr (f : Int) P).far (s.setPr (f : Int) P).last Pr.mt) := by
    rw [count_in hin, (Hz0.knows L).all]
  have htop := Hz0.far_top L s0.last Pr.mt A' Hz0.mtB (fun i => (Hz0.al i).2)
  have hlow := H.far_low L s0.last Pr.mt A H.mtB (fun i => (H.al i).1) (by have := (H.al 0); omega)
  have elz : (s.setPr (f : Int) P).last = s0.last := (Core.all Hz0.core).2.2.1
  rw [← elz] at htop
  rw [← elast] at hlow
  generalize hz0 : s.setPr (f : Int) P = z0 at *
  have hz0c : z0.commit = s.commit := by rw [← hz0]; rfl
  have hcc : z0.count.commit = z0.far z0.last Pr.mt ∧ z0.count.core = z0.core ∧ z0.count.ps = z0.ps := by
    rw [hF]
    unfold RS.count1
    by_cases hlt : z0.commit < z0.far z0.last Pr.mt
    · rw [if_pos ⟨hlt, by
        have hp0 := Core.parts Hz0.core
        rw [hp0.2.2.2.2.2.2.1, hp0.2.2.2.2.2.2.2.1, hp0.2.2.2.2.2.1, hp0.2.1, L.term]
        exact term_one L (by omega) (by rw [← elz]; exact htop)⟩]
      exact ⟨rfl, rfl, rfl⟩
    · rw [if_neg (fun h => hlt h.1)]
      exact ⟨by omega, rfl, rfl⟩
  have hay : s.appYes (smg 4 f 1 ix rd true) = if z0.count.role = 2 ∧ (z0.count.pr (f : Int)).nx ≤ z0.count.last then z0.count.send (f : Int) else z0.count := by
    rw [← hz0, hP]
    rfl
  have hend : ∃ z, s.appYes (smg 4 f 1 ix rd true) = z ∧ z.core = z0.core ∧ z.ps = z0.ps ∧ z.commit = z0.far z0.last Pr.mt := by
    rw [hay]
    split
    · obtain ⟨q, hq, _⟩ := Hz0.ps f hf2 hfn
      obtain ⟨h1, h2⟩ := send_ps z0.count (f : Int) (by rw [hcc.2.2]; exact hq)
      exact ⟨_, rfl, (core_send _ _).trans hcc.2.1, h1.trans hcc.2.2, h2.trans hcc.1⟩
    · exact ⟨_, rfl, hcc.2.1, hcc.2.2, hcc.1⟩
  obtain ⟨z, hz, hz1, hz2, hz3⟩ := hend
  unfold RS.stepF
  rw [hst2, hz]
  have Hzz : Heard n s0 z A' R' := ⟨hz1.trans Hz0.core, fun i h2 hi => by rw [hz2]; exact Hz0.ps i h2 hi, Hz0.al, Hz0.rl, Hz0.len⟩
  obtain ⟨h1, h2⟩ := hfin z A' R' Hzz (by rw [hz3]; exact Hz0.far_eq L Hzz)
  exact ⟨h1, h2, by show s.commit ≤ z.commit; rw [hz3, hc]; exact hcm⟩
end
end RF
end Go.Proofs.YtaodldagmmephaaGreat

/- raft, plain: where the answers begin; the law's own list of what each member has. -/
namespace Go.Proofs.YtaodldagmmephaaGreat
open Go.RowKit Go.Maps
namespace RF
/-- All the others are known. -/
def okQ (n : Nat) : Nat → RS → Bool
  | 0, s => (idsN n).all fun i => decide (i = 1) || (pget s.ps i).isSome
  | f + 1, s => ((idsN n).all fun i => decide (i = 1) || (pget s.ps i).isSome) && okQ n f ((s.propSC 1 ⟨#[120]⟩).fin)
theorem okQ_all : ((List.range 5).all fun i => okQ (i + 1) 20 (gPC (i + 1) 0)) = true := by decide +kernel
theorem okQ_step (n : Nat) : ∀ (f c k : Nat), okQ n f (gPC n c) = true → k ≤ f → ((idsN n).all fun i => decide (i = 1) || (pget (gPC n (c + k)).ps i).isSome) = true
  | f, c, 0, h, _ => by
    cases f with
    | zero => exact h
    | succ f =>
      unfold okQ at h
      rw [Bool.and_eq_true] at h
      exact h.1
  | 0, c, k + 1, h, hk => by omega
  | f + 1, c, k + 1, h, hk => by
    unfold okQ at h
    rw [Bool.and_eq_true] at h
    have h2 := okQ_step n f (c + 1) k h.2 (by omega)
    rw [show c + (k + 1) = c + 1 + k by omega]
    exact h2
theorem gP_known (n c : Nat) (h1 : 1 ≤ n) (h5 : n ≤ 5) (hc : c ≤ 20) (i : Nat) (h2 : 2 ≤ i) (hi : i ≤ n) : ∃ p, pget (gP n c).ps (i : Int) = some p := by
  have h := okQ_all
  rw [List.all_eq_true] at h
  have h3 := h (n - 1) (List.mem_range.2 (by omega))
  rw [show n - 1 + 1 = n by omega] at h3
  have h4 := okQ_step n 20 0 c h3 hc
  rw [Nat.zero_add, List.all_eq_true] at h4
  have h5 := h4 (i : Int) ((ids_mem n _).2 ⟨i - 1, by omega, by omega⟩)
  rw [gP_C]
  rw [Bool.or_eq_true, decide_eq_true_eq] at h5
  rcases h5 with h5 | h5
  · omega
  · exact Option.isSome_iff_exists.1 h5
def zero6 : List Int := [0, 0, 0, 0, 0, 0]
theorem zero6_el (i : Nat) : HL.el zero6 i = 0 := by
  match i with
  | 0 => rfl
  | 1 => rfl
  | 2 => rfl
  | 3 => rfl
  | 4 => rfl
  | 5 => rfl
  | i + 6 => rfl
theorem kc_zero {x : Int} (hx : 1 ≤ x) : ∀ m, kc zero6 x m = 1
  | 0 => rfl
  | m + 1 => by
    show (if x ≤ HL.el zero6 (m + 2) then kc zero6 x m + 1 else kc zero6 x m) = 1
    rw [if_neg (by rw [zero6_el]; omega), kc_zero hx m]
theorem gP_lead (n c : Nat) (h1 : 1 ≤ n) (h5 : n ≤ 5) (hc : c ≤ 20) : Lead n (gP n c) ∧ (gP n c).last = (c : Int) + 1 ∧ Heard n (gP n c) (gP n c) zero6 zero6 ∧ (gP n c).commit = (gP n c).far (gP n c).last Pr.mt ∧ (gP n c).votes.length ≤ 900 ∧ (gP n c).round = 0 ∧ ((n = 1) → (gP n c).commit = (c : Int) + 1) ∧ (n ≠ 1 → (gP n c).commit = 0) := by
  obtain ⟨a1, a2, a3, a4, a5, a6, a7, a8, a9, a10, a11, a12, a13, a14⟩ := okG_all h1 (gP_ok n c h1 h5 hc)
  have B := gP_rb n h1 (by omega) c (by omega)
  have hl : (gP n c).last = (c : Int) + 1 := by rw [B.lastE, a4, a6]; omega
  have hL : Lead n (gP n c) := ⟨h1, h5, a1, a2, a3, a4, a5, a7, a8, by rw [hl, a6]; omega, by rw [a13]; exact Int.le_refl _⟩
  have hH : Heard n (gP n c) (gP n c) zero6 zero6 := ⟨rfl, fun i h2 hi => by
    obtain ⟨p, hp⟩ := gP_known n c h1 h5 hc i h2 hi
    refine ⟨p, hp, ?_⟩
    unfold pget at hp
    rw [Option.map_eq_some_iff] at hp
    obtain ⟨x, hx, rfl⟩ := hp
    have := a10 x (List.mem_of_find?_eq_some hx)
    rw [zero6_el]
    exact ⟨this.1, this.2.1⟩, fun i => by rw [zero6_el, hl]; omega, fun i => by rw [zero6_el, a13]; omega, rfl, rfl⟩
  have ht := hH.far_top hL (gP n c).last Pr.mt zero6 hH.mtB (fun i => (hH.al i).2)
  have hlo := hH.far_low hL (gP n c).last Pr.mt zero6 hH.mtB (fun i => (hH.al i).1) (by rw [hl]; omega)
  refine ⟨hL, hl, hH, ?_, a14, a13, fun e => by rw [a11, if_pos e], fun e => by rw [a11, if_neg e]⟩
  rw [a11]
  by_cases e : n = 1
  · rw [if_pos e]
    have := (hH.far_of hL (gP n c).last Pr.mt zero6 hH.mtB (gP n c).last (Int.le_refl _)).2 (by
      subst e
      show 1 / 2 < 1
      omega)
    rw [hl] at ht this ⊢
    omega
  · rw [if_neg e]
    have : ¬ 1 ≤ (gP n c).far (gP n c).last Pr.mt := fun h => by
      have := (hH.far_of hL (gP n c).last Pr.mt zero6 hH.mtB 1 (by rw [hl]; omega)).1 h
      rw [kc_zero (Int.le_refl _)] at this
      omega
    omega
/-- A row of ints as cells. -/
def icells (A : List Int) : List Value := A.map fun x => .int .i64 x
theorem icells_at {A : List Int} {k : Nat} (h : k < A.length) : (icells A)[k]? = some (.int .i64 (HL.el A k)) := by
  unfold icells
  rw [List.getElem?_map, HL.el_eq A k h]
  rfl
theorem icells_set (A : List Int) (k : Nat) (x : Int) : (icells A).set k (.int .i64 x) = icells (A.set k x) := by
  unfold icells
  rw [List.map_set]
theorem icells_len (A : List Int) : (icells A).length = A.length := List.length_map _
theorem and3 (n : Int) : bits .and .i64 n 3 = n % 4 := by
  have h255 : (BitVec.ofInt 64 3).toNat = 2 ^ 2 - 1 := by decide
  have key : (BitVec.ofInt 64 n &&& BitVec.ofInt 64 3).toNat = (n % ((2 ^ 64 : Nat) : Int)).toNat % 2 ^ 2 := by
    rw [BitVec.toNat_and, BitVec.toNat_ofInt, h255, Nat.and_two_pow_sub_one_eq_mod]
  show IntKind.i64.wrap ((BitVec.ofInt 64 n &&& BitVec.ofInt 64 3).toNat : Nat) = n % 4
  rw [key, IntKind.wrap_i64]
  omega
theorem and31 (n : Int) : bits .and .i64 n 31 = n % 32 := by
  have h255 : (BitVec.ofInt 64 31).toNat = 2 ^ 5 - 1 := by decide
  have key : (BitVec.ofInt 64 n &&& BitVec.ofInt 64 31).toNat = (n % ((2 ^ 64 : Nat) : Int)).toNat % 2 ^ 5 := by
    rw [BitVec.toNat_and, BitVec.toNat_ofInt, h255, Nat.and_two_pow_sub_one_eq_mod]
  show IntKind.i64.wrap ((BitVec.ofInt 64 n &&& BitVec.ofInt 64 31).toNat : Nat) = n % 32
  rw [key, IntKind.wrap_i64]
  omega
theorem and15 (n : Int) : bits .and .i64 n 15 = n % 16 := by
  have h255 : (BitVec.ofInt 64 15).toNat = 2 ^ 4 - 1 := by decide
  have key : (BitVec.ofInt 64 n &&& BitVec.ofInt 64 15).toNat = (n % ((2 ^ 64 : Nat) : Int)).toNat % 2 ^ 4 := by
    rw [BitVec.toNat_and, BitVec.toNat_ofInt, h255, Nat.and_two_pow_sub_one_eq_mod]
  show IntKind.i64.wrap ((BitVec.ofInt 64 n &&& BitVec.ofInt 64 15).toNat : Nat) = n % 16
  rw [key, IntKind.wrap_i64]
  omega
end RF
end Go.Proofs.YtaodldagmmephaaGreat

/- raft, plain: a grown leader that is asked to read. -/
namespace Go.Proofs.YtaodldagmmephaaGreat
open Go.RowKit Go.Maps
namespace RF
structure Rs (n : Nat) (s : RS) (A R : List Int) : Prop where
  L : Lead n s
  H : Heard n s s A R
  cm : s.commit = s.far s.last Pr.mt
  la : s.last = 1
  vt : s.votes.length ≤ 900
section
variable {n : Nat} {s : RS} {A R : List Int}
theorem rs_start (n : Nat) (h1 : 1 ≤ n) (h5 : n ≤ 5) : Rs n (gP n 0) zero6 zero6 ∧ (gP n 0).round = 0 ∧ (n = 1 → (gP n 0).commit = 1) ∧ (n ≠ 1 → (gP n 0).commit = 0) := by
  obtain ⟨a1, a2, a3, a4, a5, a6, a7, a8⟩ := gP_lead n 0 h1 h5 (by omega)
  exact ⟨⟨a1, a3, a4, a2, a5⟩, a6, a7, a8⟩
theorem Rs.step (h : Rs n s A R) (f : Nat) (hf2 : 2 ≤ f) (hf5 : f ≤ 5) (rd : Int) (hrd : 0 ≤ rd) :
    Rs n (s.stepF (smg 4 f 1 1 rd true)) (if f ≤ n then upd A f 1 else A) (if f ≤ n ∧ rd ≤ s.round then upd R f rd else R) ∧ (s.stepF (smg 4 f 1 1 rd true)).round = s.round ∧ s.commit ≤ (s.stepF (smg 4 f 1 1 rd true)).commit := by
  obtain ⟨h1, h2, h3⟩ := h.H.step h.L h.cm f hf2 hf5 1 rd (by omega) hrd
  have e1 : (f ≤ n ∧ (1 : Int) ≤ s.last) ↔ f ≤ n := ⟨fun x => x.1, fun x => ⟨x, by rw [h.la]; exact Int.le_refl _⟩⟩
  have e2 : (f ≤ n ∧ (1 : Int) ≤ s.last ∧ rd ≤ s.round) ↔ (f ≤ n ∧ rd ≤ s.round) := ⟨fun x => ⟨x.1, x.2.2⟩, fun x => ⟨x.1, by rw [h.la]; exact Int.le_refl _, x.2⟩⟩
  simp only [e1, e2] at h1
  have p := Core.parts h1.core
  have q := Core.all h1.core
  exact ⟨⟨h1.lead h.L, ⟨rfl, h1.ps, fun i => by rw [q.2.2.1]; exact h1.al i, fun i => by rw [p.2.2.2.2.1]; exact h1.rl i, h1.len⟩, h2, q.2.2.1.trans h.la, by rw [p.2.2.2.2.2.2.2.2.2]; exact h.vt⟩, p.2.2.2.2.1, h3⟩
theorem sendAll_known : ∀ (L : List Int) (z : RS), (∀ i ∈ L, ∃ p, pget z.ps i = some p) → (L.foldl RS.send z).ps = z.ps ∧ (L.foldl RS.send z).commit = z.commit
  | [], _, _ => ⟨rfl, rfl⟩
  | y :: L, z, h => by
    obtain ⟨p, hp⟩ := h y List.mem_cons_self
    obtain ⟨h1, h2⟩ := send_ps z y hp
    obtain ⟨h3, h4⟩ := sendAll_known L (z.send y) (fun i hi => by rw [h1]; exact h i (List.mem_cons_of_mem _ hi))
    exact ⟨h3.trans h1, h4.trans h2⟩
theorem Rs.ask (h : Rs n s A R) : Rs n s.ask0.fin A R ∧ s.ask0.fin.round = min (s.round + 1) 4611686018427387904 ∧ s.ask0.fin.commit = s.commit ∨ s.round + 1 > 4611686018427387904 := by
  by_cases hr : s.round + 1 ≤ 4611686018427387904
  case neg => exact .inr (by omega)
  case pos =>
  refine .inl ?_
  have hk0 := h.H.knows h.L
  have hk : ∀ i ∈ ({ s with round := min (s.round + 1) 4611686018427387904 } : RS).others, ∃ p, pget s.ps i = some p := fun i hi => hk0 i hi
  obtain ⟨h1, h2⟩ := sendAll_known ({ s with round := min (s.round + 1) 4611686018427387904 } : RS).others { s with round := min (s.round + 1) 4611686018427387904 } hk
  have hc : s.ask0.fin.core = ({ s with round := min (s.round + 1) 4611686018427387904 } : RS).core := core_sendAll { s with round := min (s.round + 1) 4611686018427387904 }
  have p := Core.parts hc
  have q := Core.all hc
  have hr0 := h.L.rnd
  have er : s.ask0.fin.round = min (s.round + 1) 4611686018427387904 := p.2.2.2.2.1
  have el : s.ask0.fin.last = s.last := q.2.2.1
  have hL : Lead n s.ask0.fin := ⟨h.L.n1, h.L.n5, p.1.trans h.L.role, p.2.1.trans h.L.term, p.2.2.2.1.trans h.L.id, p.2.2.2.2.2.2.1.trans h.L.b, p.2.2.2.2.2.2.2.1.trans h.L.t, fun e he => h.L.tms e (by rw [p.2.2.2.2.2.1] at he; exact he), p.2.2.2.2.2.2.2.2.1.trans h.L.snap, by rw [el, p.2.2.2.2.2.1]; exact h.L.last, by rw [er]; omega⟩
  have hH : Heard n s.ask0.fin s.ask0.fin A R := ⟨rfl, fun i h3 h4 => by
    obtain ⟨pp, h5⟩ := h.H.ps i h3 h4
    refine ⟨pp, ?_, h5.2⟩
    show pget s.ask0.ps (i : Int) = _
    rw [show s.ask0.ps = s.ps from h1]
    exact h5.1, fun i => by rw [el]; exact h.H.al i, fun i => by have := h.H.rl i; rw [er]; omega, h.H.len⟩
  have ec : s.ask0.fin.commit = s.commit := h2
  have h0s : Heard n s.ask0.fin s.ask0.fin A R := hH
  refine ⟨⟨hL, hH, ?_, el.trans h.la, by rw [p.2.2.2.2.2.2.2.2.2]; exact h.vt⟩, er, ec⟩
  rw [ec, h.cm]
  -- the same row of what each has
  have t1 := h.H.far_top h.L s.last Pr.mt A h.H.mtB (fun i => (h.H.al i).2)
  have t2 := hH.far_top hL s.ask0.fin.last Pr.mt A hH.mtB (fun i => (hH.al i).2)
  rw [el] at t2 ⊢
  apply Int.le_antisymm
  · exact (hH.far_of hL s.last Pr.mt A hH.mtB _ t1).2 ((h.H.far_of h.L s.last Pr.mt A h.H.mtB _ t1).1 (Int.le_refl _))
  · exact (h.H.far_of h.L s.last Pr.mt A h.H.mtB _ t2).2 ((hH.far_of hL s.last Pr.mt A hH.mtB _ t2).1 (Int.le_refl _))
theorem kc_full (B : List Int) (x : Int) : ∀ m, (∀ i, i < m → x ≤ HL.el B (i + 2)) → kc B x m = m + 1
  | 0, _ => rfl
  | m + 1, h => by
    show (if x ≤ HL.el B (m + 2) then kc B x m + 1 else kc B x m) = m + 2
    rw [if_pos (h m (by omega)), kc_full B x m (fun i hi => h i (by omega))]
theorem Rs.one (h : Rs n s A R) (hA : ∀ j, 2 ≤ j → j ≤ n → 1 ≤ HL.el A j) : s.commit = 1 := by
  have t1 := h.H.far_top h.L s.last Pr.mt A h.H.mtB (fun i => (h.H.al i).2)
  have t2 := (h.H.far_of h.L s.last Pr.mt A h.H.mtB 1 (by rw [h.la]; omega)).2 (by
    rw [kc_full A 1 (n - 1) (fun i hi => hA (i + 2) (by omega) (by omega))]
    have := h.L.n1
    omega)
  rw [h.cm]
  rw [h.la] at t1 ⊢
  rw [h.la] at t2
  omega
theorem Rs.asks (h : Rs n s A R) (hc : s.commit = 1) : s.askE = 0 := by
  unfold RS.askE
  rw [if_neg (fun e => e h.L.role), if_neg]
  unfold RS.sure
  rw [hc, term_one h.L (by omega) (by rw [h.la]; omega), h.L.term]
  simp
theorem Rs.busy (h : Rs n s A R) (hc : s.commit = 0) : s.askE = 22 := by
  unfold RS.askE
  rw [if_neg (fun e => e h.L.role), if_pos]
  unfold RS.sure termS
  rw [hc, h.L.b, h.L.t, if_pos rfl, h.L.term]
  rfl
theorem Rs.acked (h : Rs n s A R) : s.acked = s := (h.H.knows h.L).all
theorem Rs.ackV (h : Rs n s A R) (B : List Int) (hB : ∀ j, 2 ≤ j → j ≤ n → HL.el B j = HL.el R j) (hB2 : ∀ j, 0 ≤ HL.el B j ∧ HL.el B j ≤ s.round) : (∀ x, x ≤ s.round → (x ≤ s.ackedV ↔ n / 2 < kc B x (n - 1))) ∧ s.ackedV ≤ s.round ∧ 0 ≤ s.ackedV := by
  have hb : ∀ i : Nat, 2 ≤ i → i ≤ n → ∀ p, pget s.ps (i : Int) = some p → p.rd = HL.el B i := fun i h2 hi p hp => by rw [hB i h2 hi]; exact h.H.rdB i h2 hi p hp
  exact ⟨fun x hx => h.H.far_of h.L s.round Pr.rd B hb x hx, h.H.far_top h.L s.round Pr.rd B hb (fun i => (hB2 i).2), h.H.far_low h.L s.round Pr.rd B hb (fun i => (hB2 i).1) h.L.rnd⟩
theorem Rs.fin (h : Rs n s A R) : Rs n s.fin A R := by
  have hH : Heard n s s.fin A R := ⟨rfl, h.H.ps, h.H.al, h.H.rl, h.H.len⟩
  have hH2 : Heard n s.fin s.fin A R := ⟨rfl, h.H.ps, h.H.al, h.H.rl, h.H.len⟩
  exact ⟨hH.lead h.L, hH2, by rw [← h.H.far_eq h.L hH]; exact h.cm, h.la, h.vt⟩
theorem Rs.lone (h : Rs 1 s A R) : s.ackedV = s.round := by
  obtain ⟨h1, h2, h3⟩ := h.ackV zero6 (fun j h2 h1 => by omega) (fun j => by rw [zero6_el]; exact ⟨Int.le_refl _, h.L.rnd⟩)
  have := (h1 s.round (Int.le_refl _)).2 (by show 1 / 2 < 1; omega)
  omega
end
end RF
end Go.Proofs.YtaodldagmmephaaGreat

/- raft, plain: a leader whose members change. -/
namespace Go.Proofs.YtaodldagmmephaaGreat
open Go.RowKit Go.Maps
namespace RF
/-- A leader of its own first term, whose members change. -/
structure Ch (s : RS) : Prop where
  role : s.role = 2
  id : s.id = 1
  term : s.term = 1
  b : s.b = 0
  log : newOk s.b s.t s.l = true
  tms : ∀ e ∈ s.l, e.tm = 1
  val : CL.Valid s.all
  own : (1 : Int) ∈ s.all
  c0 : 0 ≤ s.commit ∧ s.commit ≤ s.last
  kn : s.knows
  mt : ∀ x ∈ s.ps, x.2.mt ≤ s.last
  far : s.far s.last Pr.mt ≤ s.commit
  vt : s.votes.length ≤ 900
section
variable {s z : RS}
theorem last_len (h : newOk s.b s.t s.l = true) (hb : s.b = 0) : s.last = (s.l.length : Int) := by
  have := follow_last s.l s.b s.t (newOk_parts h).2.2
  unfold RS.last
  rw [this, hb]
  omega
theorem pget_in {ps : List (Int × Pr)} {i : Int} {p : Pr} (h : pget ps i = some p) : ∃ x ∈ ps, x.2 = p := by
  unfold pget at h
  rw [Option.map_eq_some_iff] at h
  obtain ⟨x, hx, hp⟩ := h
  exact ⟨x, List.mem_of_find?_eq_some hx, hp⟩
theorem pr_mt (hm : ∀ x ∈ s.ps, x.2.mt ≤ s.last) (h0 : 0 ≤ s.last) (i : Int) : (s.pr i).mt ≤ s.last := by
  unfold RS.pr
  cases h : pget s.ps i with
  | none => exact h0
  | some p =>
    obtain ⟨x, hx, e⟩ := pget_in h
    rw [← e]
    exact hm x hx
/-- How far each is, where all are known. -/
theorem has_kn (h : s.knows) (own : Int) (z : Int) : s.has own Pr.mt z = if z = s.id then own else (s.pr z).mt := by
  unfold RS.has
  rw [h.all]
theorem far_top2 (hv : CL.Valid s.all) (hk : s.knows) (hm : ∀ x ∈ s.ps, x.2.mt ≤ s.last) (h0 : 0 ≤ s.last) : s.far s.last Pr.mt ≤ s.last := by
  apply Classical.byContradiction
  intro hn
  have h := (far_le hv s.last Pr.mt (s.last + 1)).1 (by omega)
  have he : (s.all.filter fun z => decide (s.last + 1 ≤ s.has s.last Pr.mt z)) = [] := by
    rw [List.filter_eq_nil_iff]
    intro z _
    have : s.has s.last Pr.mt z ≤ s.last := by
      rw [has_kn hk]
      split
      · exact Int.le_refl _
      · exact pr_mt hm h0 z
    simp only [decide_eq_true_eq]
    omega
  rw [he] at h
  have h1 := hv.1
  unfold CL.quo at h
  rw [if_neg (by omega)] at h
  exact absurd h (by show ¬ s.all.length / 2 + 1 ≤ 0; omega)
theorem far_full (hv : CL.Valid s.all) (hk : s.knows) (ho : ∀ z ∈ s.others, s.last ≤ (s.pr z).mt) : s.last ≤ s.far s.last Pr.mt := by
  refine (far_le hv s.last Pr.mt s.last).2 ?_
  have he : (s.all.filter fun z => decide (s.last ≤ s.has s.last Pr.mt z)) = s.all := by
    rw [List.filter_eq_self]
    intro z hz
    rw [decide_eq_true_eq, has_kn hk]
    by_cases e : z = s.id
    · rw [if_pos e]
      exact Int.le_refl _
    · rw [if_neg e]
      refine ho z ?_
      unfold RS.others
      exact List.mem_filter.2 ⟨hz, by simp [e]⟩
  rw [he]
  have h1 := hv.1
  unfold CL.quo
  rw [if_neg (by omega)]
  omega
theorem far_kn (hk : s.knows) (own : Int) : s.far own Pr.mt = CL.reached s.all (s.id :: s.others) (own :: s.others.map fun i => (s.pr i).mt) := by
  unfold RS.far
  rw [hk.all]
/-- The same reckoning where the core, the peers are the same. -/
theorem far_same (hc : z.core = s.core) (hp : z.ps = s.ps) (hk : s.knows) : z.knows ∧ z.far z.last Pr.mt = s.far s.last Pr.mt := by
  have q := Core.all hc
  have p := Core.parts hc
  have hkz : z.knows := fun i hi => by
    rw [hp]
    exact hk i (by rw [← q.2.1]; exact hi)
  refine ⟨hkz, ?_⟩
  rw [far_kn hkz, far_kn hk, q.1, q.2.1, q.2.2.1, p.2.2.2.1]
  unfold RS.pr
  rw [hp]
/-- What count leaves. -/
theorem count_ch (role : s.role = 2) (id : s.id = 1) (term : s.term = 1) (b : s.b = 0) (log : newOk s.b s.t s.l = true) (tms : ∀ e ∈ s.l, e.tm = 1) (val : CL.Valid s.all) (own : (1 : Int) ∈ s.all) (c0 : 0 ≤ s.commit ∧ s.commit ≤ s.last) (kn : s.knows) (mt : ∀ x ∈ s.ps, x.2.mt ≤ s.last) (vt : s.votes.length ≤ 900) :
    Ch s.count ∧ s.count.core = s.core ∧ s.count.ps = s.ps ∧ s.commit ≤ s.count.commit := by
  have hin : s.id ∈ s.all := by rw [id]; exact own
  have hl := last_len log b
  have ht := far_top2 val kn mt (by omega)
  have hc := core_count hin
  have hq := Core.all hc
  have hp := Core.parts hc
  have e : s.count = s.count1 (s.far s.last Pr.mt) := by rw [count_in hin, kn.all]
  have hps : s.count.ps = s.ps := by
    rw [e]
    unfold RS.count1
    split <;> rfl
  have hcm : s.count.commit = if s.commit < s.far s.last Pr.mt then s.far s.last Pr.mt else s.commit := by
    rw [e]
    unfold RS.count1
    by_cases hlt : s.commit < s.far s.last Pr.mt
    · have hel : termS s.b s.t s.l (s.far s.last Pr.mt) = some 1 := by
        unfold termS
        rw [if_neg (by omega)]
        unfold atS
        rw [if_neg (by omega)]
        have hi : (s.far s.last Pr.mt - s.b - 1).toNat < s.l.length := by omega
        have hx := tms (HL.el s.l (s.far s.last Pr.mt - s.b - 1).toNat) (by
          unfold HL.el
          rw [List.getD_eq_getElem?_getD, List.getElem?_eq_getElem hi]
          exact List.getElem_mem _)
        show some (HL.el s.l (s.far s.last Pr.mt - s.b - 1).toNat).tm = some 1
        rw [hx]
      rw [if_pos hlt, if_pos ⟨hlt, by rw [hel, term]⟩]
    · rw [if_neg (fun h => hlt h.1), if_neg hlt]
  have hf := far_same hc hps kn
  refine ⟨⟨hp.1.trans role, hp.2.2.2.1.trans id, hp.2.1.trans term, hp.2.2.2.2.2.2.1.trans b, by rw [hp.2.2.2.2.2.2.1, hp.2.2.2.2.2.2.2.1, hp.2.2.2.2.2.1]; exact log, by rw [hp.2.2.2.2.2.1]; exact tms, by rw [hq.1]; exact val, by rw [hq.1]; exact own, ?_, hf.1, by rw [hps, hq.2.2.1]; exact mt, ?_, by rw [hp.2.2.2.2.2.2.2.2.2]; exact vt⟩, hc, hps, ?_⟩
  · rw [hq.2.2.1, hcm]
    split <;> omega
  · rw [hf.2, hcm]
    split <;> omega
  · rw [hcm]
    split <;> omega
theorem Ch.of (h : Ch s) (hc : z.core = s.core) (hp : z.ps = s.ps) (hm : z.commit = s.commit) : Ch z := by
  have hf := far_same hc hp h.kn
  have hq := Core.all hc
  have p := Core.parts hc
  exact ⟨p.1.trans h.role, p.2.2.2.1.trans h.id, p.2.1.trans h.term, p.2.2.2.2.2.2.1.trans h.b, by rw [p.2.2.2.2.2.2.1, p.2.2.2.2.2.2.2.1, p.2.2.2.2.2.1]; exact h.log, by rw [p.2.2.2.2.2.1]; exact h.tms, by rw [hq.1]; exact h.val, by rw [hq.1]; exact h.own, by rw [hq.2.2.1, hm]; exact h.c0, hf.1, by rw [hp, hq.2.2.1]; exact h.mt, by rw [hf.2, hm]; exact h.far, by rw [p.2.2.2.2.2.2.2.2.2]; exact h.vt⟩
theorem oth_ne2 (s : RS) : ∀ i ∈ s.others, i ≠ s.id := fun i hi => by
  unfold RS.others at hi
  have := (List.mem_filter.1 hi).2
  simpa using this
theorem know_kn (h : Ch s) {i : Int} (hi : i ∈ s.others) : s.know i = s := by
  obtain ⟨p, hp⟩ := h.kn i hi
  exact know_id hp
theorem send_ch (h : Ch s) {i : Int} (hi : i ∈ s.others) : Ch (s.send i) ∧ (s.send i).core = s.core ∧ (s.send i).ps = s.ps ∧ (s.send i).commit = s.commit := by
  obtain ⟨p, hp⟩ := h.kn i hi
  obtain ⟨h1, h2⟩ := send_ps s i hp
  exact ⟨h.of (core_send s i) h1 h2, core_send s i, h1, h2⟩
/-- One more has answered that it has all. -/
theorem answer_ch (h : Ch s) (y : Int) (hy : y ∈ s.all) :
    Ch (s.stepF (smg 4 y 1 s.last 0 true)) ∧ (s.stepF (smg 4 y 1 s.last 0 true)).core = s.core ∧ s.commit ≤ (s.stepF (smg 4 y 1 s.last 0 true)).commit ∧
    (∀ i ∈ s.others, ((s.stepF (smg 4 y 1 s.last 0 true)).pr i).mt = if i = y then s.last else (s.pr i).mt) := by
  have hv := h.val
  have hall : ∀ i ∈ s.all, 1 ≤ i ∧ i ≤ 64 := fun i hi => by
    obtain ⟨k, hk⟩ := List.getElem?_of_mem hi
    have hkl : k < s.all.length := (List.getElem?_eq_some_iff.1 hk).1
    have hg := (hv.2.2 k hkl).1
    rw [HL.el_eq s.all k hkl] at hk
    injection hk with hk
    rw [hk] at hg
    unfold CL.isId at hg
    rw [Bool.and_eq_true, decide_eq_true_eq, decide_eq_true_eq] at hg
    exact hg
  have h1 := hall y hy
  unfold RS.stepF RS.step
  by_cases hy1 : y = 1
  · have hno : ¬ s.heeds (smg 4 y 1 s.last 0 true) := fun e => e.2.2.2.1 (by rw [h.id]; exact hy1)
    rw [if_neg hno]
    refine ⟨h.of rfl rfl rfl, rfl, Int.le_refl _, fun i hi => ?_⟩
    have : i ≠ y := by
      have := oth_ne2 s i hi
      rw [h.id] at this
      omega
    rw [if_neg this]
    rfl
  · have hyes : s.heeds (smg 4 y 1 s.last 0 true) := ⟨by rw [h.id]; rfl, h1.1, h1.2, by rw [h.id]; exact hy1, by show (1 : Int) ≤ 4; omega, by show (4 : Int) ≤ 6; omega, by show (1 : Int) ≤ 1; omega, by show (1 : Int) ≤ 1152921504606846976; omega⟩
    have hyo : y ∈ s.others := by
      unfold RS.others
      exact List.mem_filter.2 ⟨hy, by rw [h.id]; simp [hy1]⟩
    have e0 : s.step0 (smg 4 y 1 s.last 0 true) = s.appRes (smg 4 y 1 s.last 0 true) := by
      unfold RS.step0 RS.turn
      rw [if_neg (by rw [h.term]; show ¬ (1 : Int) < 1; omega), if_neg (by rw [h.term]; show ¬ (1 : Int) < 1; omega)]
      rfl
    rw [if_pos hyes, e0]
    have hl := last_len h.log h.b
    have e1 : s.appRes (smg 4 y 1 s.last 0 true) = s.appYes (smg 4 y 1 s.last 0 true) := by
      unfold RS.appRes
      rw [if_neg (by
        rintro (e | e)
        · exact e h.role
        · exact e hyo)]
      have hk : s.know (smg 4 y 1 s.last 0 true).fr = s := know_kn h hyo
      rw [hk]
      rw [if_neg (by
        rintro ⟨_, e | e⟩
        · have e : s.last < 0 := e
          omega
        · exact absurd e (Int.lt_irrefl _)), if_neg (by show ¬ true = false; simp)]
    rw [e1]
    have hmt0 := pr_mt h.mt (by omega) y
    obtain ⟨p0, hp0⟩ := h.kn y hyo
    obtain ⟨p, hp⟩ : ∃ p : Pr, p = { s.heard (smg 4 y 1 s.last 0 true) with mt := max (s.heard (smg 4 y 1 s.last 0 true)).mt s.last, nx := max (s.heard (smg 4 y 1 s.last 0 true)).nx (max (s.heard (smg 4 y 1 s.last 0 true)).mt s.last + 1) } := ⟨_, rfl⟩
    have hpm : p.mt = s.last := by
      rw [hp]
      show max (s.heard (smg 4 y 1 s.last 0 true)).mt s.last = s.last
      have : (s.heard (smg 4 y 1 s.last 0 true)).mt = (s.pr y).mt := by
        unfold RS.heard
        split <;> rfl
      omega
    have hgt : ∀ i q, pget s.ps i = some q → pget (s.setPr y p).ps i = some (if i = y then p else q) := fun i q hq => pset_get hq
    have hk1 : (s.setPr y p).knows := fun i hi => by
      obtain ⟨q, hq⟩ := h.kn i hi
      exact ⟨_, hgt i q hq⟩
    have hm1 : ∀ x ∈ (s.setPr y p).ps, x.2.mt ≤ (s.setPr y p).last := fun x hx => by
      have hx : x ∈ pset s.ps y p := hx
      unfold pset at hx
      rw [List.mem_map] at hx
      obtain ⟨x0, hx0, e⟩ := hx
      by_cases e2 : (x0.1 == y) = true
      · rw [if_pos e2] at e
        rw [← e]
        show p.mt ≤ s.last
        omega
      · rw [if_neg e2] at e
        rw [← e]
        exact h.mt x0 hx0
    obtain ⟨C, cc, cp, cm⟩ := count_ch (s := s.setPr y p) h.role h.id h.term h.b h.log h.tms h.val h.own h.c0 hk1 hm1 h.vt
    have hpr : ∀ (z : RS), z.ps = (s.setPr y p).ps → ∀ i ∈ s.others, (z.pr i).mt = if i = y then s.last else (s.pr i).mt := fun z hz i hi => by
      obtain ⟨q, hq⟩ := h.kn i hi
      unfold RS.pr
      rw [hz, hgt i q hq, hq]
      split
      · exact hpm
      · rfl
    have e2 : s.appYes (smg 4 y 1 s.last 0 true) = if (s.setPr y p).count.role = 2 ∧ ((s.setPr y p).count.pr y).nx ≤ (s.setPr y p).count.last then (s.setPr y p).count.send y else (s.setPr y p).count := by
      rw [hp]
      rfl
    rw [e2]
    split
    · have hyo2 : y ∈ (s.setPr y p).count.others := by rw [(Core.all cc).2.1]; exact hyo
      obtain ⟨C2, d1, d2, d3⟩ := send_ch C hyo2
      exact ⟨C2.of rfl rfl rfl, d1.trans cc, by show s.commit ≤ ((s.setPr y p).count.send y).commit; rw [d3]; exact cm, hpr _ (d2.trans cp)⟩
    · exact ⟨C.of rfl rfl rfl, cc, cm, hpr _ cp⟩
end
end RF
end Go.Proofs.YtaodldagmmephaaGreat

/- raft, plain: members proposed. -/
namespace Go.Proofs.YtaodldagmmephaaGreat
open Go.RowKit Go.Maps
namespace RF
section
variable {s z : RS} {M : Int} {N : Nat}
theorem near_symm (a b : List Int) : CL.near a b = CL.near b a := by
  unfold CL.near
  have e1 : CL.nrm (a ++ b) = CL.nrm (b ++ a) := CL.nrm_ext (fun x => by rw [List.mem_append, List.mem_append]; exact Or.comm)
  have e2 : ∀ l, CL.odd a b l = CL.odd b a l := fun l => by
    unfold CL.odd
    congr 1
    apply List.filter_congr
    intro x _
    cases decide (x ∈ a) <;> cases decide (x ∈ b) <;> rfl
  rw [e1, e2]
/-- Why members are taken. -/
theorem may_zero {l : List Int} (hl : ∀ x ∈ l, okI x) (hn : l.length ≤ 1000000) (h : s.propE 2 (bytesOf (memsL l)) = 0) :
    validB l = true ∧ CL.near l s.all = true ∧ s.id ∈ l ∧ s.l.length < 400 ∧ gm (bytesOf (memsL l)) = some l := by
  have hg := gm_put l hl hn
  unfold RS.propE at h
  by_cases h1 : s.role ≠ 2
  · rw [if_pos h1] at h; exact absurd h (by decide)
  rw [if_neg h1] at h
  by_cases h2 : ((2 : Int) ≠ 1 ∧ (2 : Int) ≠ 2) ∨ 2200 < (bytesOf (memsL l)).size
  · rw [if_pos h2] at h; exact absurd h (by decide)
  rw [if_neg h2] at h
  by_cases h3 : 400 ≤ s.l.length
  · rw [if_pos h3] at h; exact absurd h (by decide)
  rw [if_neg h3, if_pos rfl] at h
  unfold RS.may at h
  rw [hg] at h
  by_cases hv : validB l = true
  · rw [if_pos hv] at h hg
    dsimp only at h
    by_cases h4 : validB l = false ∨ CL.near l s.all = false ∨ ¬ s.id ∈ l
    · rw [if_pos h4] at h; exact absurd h (by decide)
    · refine ⟨hv, ?_, ?_, by omega, hg⟩
      · cases hb : CL.near l s.all with
        | true => rfl
        | false => exact absurd (.inr (.inl hb)) h4
      · apply Classical.byContradiction
        intro hb
        exact h4 (.inr (.inr hb))
  · rw [if_neg hv] at h
    dsimp only at h
    exact absurd h (by decide)
theorem lmem_put (l : List En) (e : En) (m : List Int) (hk : e.kd = 2) (hg : gm e.da = some m) : lmemV (l ++ [e]) e.ix = (m, e.ix) := by
  unfold lmemV lmem
  rw [List.reverse_append]
  show (List.findSome? (memOf e.ix) (e :: l.reverse)).getD ([], 0) = _
  have : memOf e.ix e = some (m, e.ix) := by
    unfold memOf
    rw [if_pos ⟨hk, Int.le_refl _⟩, hg]
    rfl
  rw [List.findSome?_cons, this]
  rfl
theorem add_l (s : RS) (kd : Int) (da : ByteArray) : (s.add kd da).l = s.l ++ [⟨s.last + 1, s.term, kd, da⟩] ∧ (s.add kd da).role = s.role ∧ (s.add kd da).id = s.id ∧ (s.add kd da).term = s.term ∧ (s.add kd da).b = s.b ∧ (s.add kd da).t = s.t ∧ (s.add kd da).ps = s.ps ∧ (s.add kd da).commit = s.commit ∧ (s.add kd da).votes = s.votes ∧ (s.add kd da).last = s.last + 1 := by
  have hl : (s.add kd da).l = s.l ++ [⟨s.last + 1, s.term, kd, da⟩] ∧ (s.add kd da).b = s.b ∧ (s.add kd da).t = s.t := by
    unfold RS.add RS.changed
    split <;> exact ⟨rfl, rfl, rfl⟩
  refine ⟨hl.1, ?_, ?_, ?_, hl.2.1, hl.2.2, ?_, ?_, ?_, ?_⟩
  · unfold RS.add RS.changed; split <;> rfl
  · unfold RS.add RS.changed; split <;> rfl
  · unfold RS.add RS.changed; split <;> rfl
  · unfold RS.add RS.changed; split <;> rfl
  · unfold RS.add RS.changed; split <;> rfl
  · unfold RS.add RS.changed; split <;> rfl
  · show (lastS (s.add kd da).b (s.add kd da).t (s.add kd da).l).1 = _
    rw [hl.1, hl.2.1, hl.2.2, last_put]
theorem pget_cons2 (y i : Int) (p : Pr) (ps : List (Int × Pr)) : pget ((y, p) :: ps) i = if y = i then some p else pget ps i := by
  unfold pget
  rw [List.find?_cons]
  by_cases e : y = i
  · have : (y == i) = true := by simp [e]
    rw [this, if_pos e]
    rfl
  · have : (y == i) = false := by simp [e]
    rw [this, if_neg e]
/-- What regard makes of the peers. -/
theorem regard_fold (n : Int) : ∀ (L : List Int) (r : RS), (L.foldl (fun r i => match pget r.ps i with | some _ => r | none => { r with ps := (i, ⟨n, 0, 0⟩) :: r.ps }) r).core = r.core ∧ (L.foldl (fun r i => match pget r.ps i with | some _ => r | none => { r with ps := (i, ⟨n, 0, 0⟩) :: r.ps }) r).commit = r.commit ∧ (∀ x ∈ (L.foldl (fun r i => match pget r.ps i with | some _ => r | none => { r with ps := (i, ⟨n, 0, 0⟩) :: r.ps }) r).ps, x.2.mt = 0 ∨ x ∈ r.ps) ∧
    ∀ i, (i ∈ L ∨ ∃ p, pget r.ps i = some p) → ∃ p, pget (L.foldl (fun r i => match pget r.ps i with | some _ => r | none => { r with ps := (i, ⟨n, 0, 0⟩) :: r.ps }) r).ps i = some p
  | [], r => ⟨rfl, rfl, fun x hx => .inr hx, fun i h => by
    rcases h with h | h
    · exact absurd h List.not_mem_nil
    · exact h⟩
  | y :: L, r => by
    rw [List.foldl_cons]
    obtain ⟨h1, h2, h4, h3⟩ := regard_fold n L (match pget r.ps y with | some _ => r | none => { r with ps := (y, ⟨n, 0, 0⟩) :: r.ps })
    cases hy : pget r.ps y with
    | some p0 =>
      rw [hy] at h1 h2 h3 h4
      dsimp only at h1 h2 h3 h4 ⊢
      refine ⟨h1, h2, h4, fun i hi => h3 i ?_⟩
      rcases hi with hi | hi
      · rcases List.mem_cons.1 hi with e | hi
        · exact .inr ⟨p0, by rw [e]; exact hy⟩
        · exact .inl hi
      · exact .inr hi
    | none =>
      rw [hy] at h1 h2 h3 h4
      dsimp only at h1 h2 h3 h4 ⊢
      refine ⟨h1, h2, fun x hx => ?_, fun i hi => h3 i ?_⟩
      · rcases h4 x hx with h | h
        · exact .inl h
        · rcases List.mem_cons.1 h with e | h
          · exact .inl (by rw [e])
          · exact .inr h
      · rw [pget_cons2]
        rcases hi with hi | ⟨p, hi⟩
        · rcases List.mem_cons.1 hi with e | hi
          · exact .inr ⟨_, by rw [if_pos e.symm]⟩
          · exact .inl hi
        · by_cases e : y = i
          · exact .inr ⟨_, by rw [if_pos e]⟩
          · exact .inr ⟨p, by rw [if_neg e]; exact hi⟩
set_option maxHeartbeats 2000000 in
set_option maxRecDepth 100000 in
theorem prop_ch (h : Ch s) (B : RB M N s) (hM : M < 4503599627370496) (hN : N < 10000) {l : List Int} (hl : ∀ x ∈ l, okI x) (hn : l.length ≤ 1000) (hp : s.propE 2 (bytesOf (memsL l)) = 0) :
    Ch (s.prop0 2 (bytesOf (memsL l))).fin ∧ (s.prop0 2 (bytesOf (memsL l))).fin.all = l ∧ (s.prop0 2 (bytesOf (memsL l))).fin.last = s.last + 1 ∧ CL.near l s.all = true ∧ (1 : Int) ∈ l ∧ CL.Valid l ∧
    lmemV (s.prop0 2 (bytesOf (memsL l))).fin.l (s.last + 1) = (l, s.last + 1) ∧ (s.prop0 2 (bytesOf (memsL l))).fin.l.length ≤ 400 := by
  obtain ⟨hv, hne, hid, hlen, hg⟩ := may_zero hl (by omega) hp
  rw [h.id] at hid
  have hV := (valid_iff l).1 hv
  have hsz : (bytesOf (memsL l)).size ≤ 2000000 := by
    show (memsL l).toArray.size ≤ _
    rw [List.size_toArray]
    unfold memsL
    rw [List.length_append]
    have h1 := varL_len (l.length : Int)
    have h2 := varsL_len l
    omega
  have hlast := last_len h.log h.b
  have RBp := (prop_pre B 2 hsz hM hN).1
  obtain ⟨a1, a2, a3, a4, a5, a6, a7, a8, a9, a10⟩ := add_l s 2 (bytesOf (memsL l))
  have hlm : lmemV (s.add 2 (bytesOf (memsL l))).l (s.last + 1) = (l, s.last + 1) := by
    rw [a1]
    exact lmem_put s.l ⟨s.last + 1, s.term, 2, bytesOf (memsL l)⟩ l rfl hg
  have hall : (s.add 2 (bytesOf (memsL l))).all = l := by
    unfold RS.all RS.mem
    rw [a10, hlm, if_pos (by show 0 < s.last + 1; omega)]
  -- the peers
  obtain ⟨r1, r2, r3, r4⟩ := regard_fold (s.last + 1) (s.add 2 (bytesOf (memsL l))).others { s.add 2 (bytesOf (memsL l)) with ps := (s.add 2 (bytesOf (memsL l))).ps.filter fun x => decide (x.1 ∈ (s.add 2 (bytesOf (memsL l))).others) }
  have hrc : ((s.add 2 (bytesOf (memsL l))).regard (s.last + 1)).core = (s.add 2 (bytesOf (memsL l))).core := r1
  have hq := Core.all hrc
  have hpp := Core.parts hrc
  have hrl := hpp.2.2.2.2.2.1
  have kn2 : ((s.add 2 (bytesOf (memsL l))).regard (s.last + 1)).knows := fun i hi => r4 i (.inl (by rw [hq.2.1] at hi; exact hi))
  have mt2 : ∀ x ∈ ((s.add 2 (bytesOf (memsL l))).regard (s.last + 1)).ps, x.2.mt ≤ ((s.add 2 (bytesOf (memsL l))).regard (s.last + 1)).last := fun x hx => by
    rw [hq.2.2.1, a10]
    rcases r3 x hx with e | e
    · rw [e]; omega
    · have e : x ∈ (s.add 2 (bytesOf (memsL l))).ps.filter _ := e
      have := (List.mem_filter.1 e).1
      rw [a7] at this
      have := h.mt x this
      omega
  obtain ⟨C, cc, cp, cm⟩ := count_ch (s := (s.add 2 (bytesOf (memsL l))).regard (s.last + 1)) (hpp.1.trans (a2.trans h.role)) (hpp.2.2.2.1.trans (a3.trans h.id)) (hpp.2.1.trans (a4.trans h.term)) (hpp.2.2.2.2.2.2.1.trans (a5.trans h.b)) RBp.log (by
      rw [hrl, a1]
      intro e he
      rcases List.mem_append.1 he with he | he
      · exact h.tms e he
      · rw [List.mem_singleton] at he
        rw [he]
        exact h.term) (by rw [hq.1, hall]; exact hV) (by rw [hq.1, hall]; exact hid) (by
      have e : ((s.add 2 (bytesOf (memsL l))).regard (s.last + 1)).commit = s.commit := r2.trans a8
      rw [e, hq.2.2.1, a10]
      have := h.c0
      omega) kn2 mt2 (by rw [hpp.2.2.2.2.2.2.2.2.2, a9]; exact h.vt)
  have ccA := cc.trans hrc
  have hcq := Core.all ccA
  have hcp := Core.parts ccA
  have e0 : s.prop0 2 (bytesOf (memsL l)) = ((s.add 2 (bytesOf (memsL l))).regard (s.last + 1)).count.sendAll := by
    unfold RS.prop0
    dsimp only
    rw [if_pos C.role]
  have hsk := sendAll_known ((s.add 2 (bytesOf (memsL l))).regard (s.last + 1)).count.others ((s.add 2 (bytesOf (memsL l))).regard (s.last + 1)).count C.kn
  have hsc := core_sendAll ((s.add 2 (bytesOf (memsL l))).regard (s.last + 1)).count
  have hf : (s.prop0 2 (bytesOf (memsL l))).fin.core = (s.add 2 (bytesOf (memsL l))).core := by
    rw [e0]
    exact hsc.trans ccA
  have hfq := Core.all hf
  have hfp := Core.parts hf
  refine ⟨C.of (by rw [e0]; exact hsc) (by rw [e0]; exact hsk.1) (by rw [e0]; exact hsk.2), hfq.1.trans hall, hfq.2.2.1.trans a10, hne, hid, hV, by rw [hfp.2.2.2.2.2.1]; exact hlm, ?_⟩
  rw [hfp.2.2.2.2.2.1, a1, List.length_append]
  show s.l.length + 1 ≤ 400
  omega
theorem valid_ok {m : List Int} (h : CL.Valid m) : ∀ x ∈ m, okI x := fun x hx => by
  obtain ⟨k, hk⟩ := List.getElem?_of_mem hx
  have hkl : k < m.length := (List.getElem?_eq_some_iff.1 hk).1
  have hg := (h.2.2 k hkl).1
  rw [HL.el_eq m k hkl] at hk
  injection hk with hk
  rw [hk] at hg
  unfold CL.isId at hg
  rw [Bool.and_eq_true, decide_eq_true_eq, decide_eq_true_eq] at hg
  unfold okI
  omega
/-- While a change is not committed none is taken. -/
theorem prop_busy (h : Ch s) {l m : List Int} (hall : s.all = l) (hne : CL.near l m = true) (hm : CL.Valid m) (h1 : (1 : Int) ∈ m) (hlm : (lmemV s.l s.last).2 = s.last) (hc : s.commit < s.last) (hlen : s.l.length < 400) : s.propE 2 (bytesOf (memsL m)) = 22 := by
  have hg := gm_put m (valid_ok hm) (by have := hm.2.1; omega)
  rw [if_pos ((valid_iff m).2 hm)] at hg
  have hsz : ¬ 2200 < (bytesOf (memsL m)).size := by
    show ¬ 2200 < (memsL m).toArray.size
    rw [List.size_toArray]
    unfold memsL
    rw [List.length_append]
    have h1 := varL_len (m.length : Int)
    have h2 := varsL_len m
    have h3 := hm.2.1
    omega
  unfold RS.propE
  rw [if_neg (fun e => e h.role), if_neg (by
    rintro (e | e)
    · exact e.2 rfl
    · exact hsz e), if_neg (by omega), if_pos rfl]
  unfold RS.may
  rw [hg]
  dsimp only
  rw [if_neg (by
    rintro (e | e | e)
    · rw [(valid_iff m).2 hm] at e; cases e
    · rw [near_symm, hall, hne] at e; cases e
    · rw [h.id] at e; exact e h1), if_pos (.inl (by rw [hlm]; exact hc))]
/-- All have answered. -/
theorem all_told (h : Ch s) (ho : ∀ i ∈ s.others, (s.pr i).mt = s.last) : s.commit = s.last := by
  have h1 := far_full h.val h.kn (fun z hz => by rw [ho z hz]; exact Int.le_refl _)
  have h2 := h.far
  have h3 := h.c0
  omega
/-- A grown leader. -/
theorem gP_ch (n : Nat) (h1 : 1 ≤ n) (h5 : n ≤ 5) : Ch (gP n 0) ∧ (gP n 0).last = 1 ∧ (gP n 0).all = idsN n := by
  obtain ⟨L, b2, H, b4, b5, _, _, _⟩ := gP_lead n 0 h1 h5 (by omega)
  obtain ⟨a1, a2, a3, a4, a5, a6, a7, a8, a9, a10, a11, a12, a13, a14⟩ := okG_all h1 (gP_ok n 0 h1 h5 (by omega))
  have B := gP_rb n h1 (by omega) 0 (by omega)
  have hl1 : (gP n 0).last = 1 := b2
  have hkn := H.knows L
  have hmt : ∀ x ∈ (gP n 0).ps, x.2.mt ≤ (gP n 0).last := fun x hx => by
    have := (a10 x hx).1
    rw [hl1]
    omega
  have hval : CL.Valid (gP n 0).all := by rw [L.all]; exact ids_valid n h1 (by omega)
  have ht := far_top2 hval hkn hmt (by omega)
  exact ⟨⟨L.role, L.id, L.term, L.b, B.log, fun e he => (L.tms e he).1, hval, by rw [L.all]; exact ids_one n h1, ⟨B.commit.1, by rw [b4]; exact ht⟩, hkn, hmt, by rw [b4]; exact Int.le_refl _, b5⟩, hl1, L.all⟩
end
end RF
end Go.Proofs.YtaodldagmmephaaGreat

