/- raft, plain: a grown leader that hears answers. -/
import Derived.Test.YtaodldagmmephaaGreatB6
import Derived.Test.YtaodldagmmephaaGreatA9
namespace Go.Proofs.YtaodldagmmephaaGreat
open Go.RowKit Go.Maps
namespace RF
/-- How many are at x: the leader, and members 2 .. m + 1. -/
def kc (A : List Int) (x : Int) : Nat → Nat
  | 0 => 1
  | m + 1 => if x ≤ HL.el A (m + 2) then kc A x m + 1 else kc A x m
/-- What stays of a grown leader. -/
structure Lead (n : Nat) (s : RS) : Prop where
  n1 : 1 ≤ n
  n5 : n ≤ 5
  role : s.role = 2
  term : s.term = 1
  id : s.id = 1
  b : s.b = 0
  t : s.t = 0
  tms : ∀ e ∈ s.l, e.tm = 1 ∧ e.kd ≠ 2
  snap : s.snap = idsN n
  last : s.last = (s.l.length : Int)
  rnd : 0 ≤ s.round
structure Heard (n : Nat) (s0 s : RS) (A R : List Int) : Prop where
  core : s.core = s0.core
  ps : ∀ i : Nat, 2 ≤ i → i ≤ n → ∃ p, pget s.ps (i : Int) = some p ∧ p.mt = HL.el A i ∧ p.rd = HL.el R i
  al : ∀ i, 0 ≤ HL.el A i ∧ HL.el A i ≤ s0.last
  rl : ∀ i, 0 ≤ HL.el R i ∧ HL.el R i ≤ s0.round
  len : A.length = 6 ∧ R.length = 6
section
variable {n : Nat} {s0 s : RS} {A R : List Int}
theorem ids_mem (n : Nat) (z : Int) : z ∈ idsN n ↔ ∃ k : Nat, k < n ∧ z = (k : Int) + 1 := by
  unfold idsN
  rw [List.mem_map]
  constructor
  · rintro ⟨k, hk, rfl⟩; exact ⟨k, List.mem_range.1 hk, rfl⟩
  · rintro ⟨k, hk, rfl⟩; exact ⟨k, List.mem_range.2 hk, rfl⟩
theorem Lead.all (L : Lead n s0) : s0.all = idsN n := by rw [all_snap (fun e he => (L.tms e he).2), L.snap]
theorem Lead.oth (L : Lead n s0) (z : Int) : z ∈ s0.others ↔ ∃ i : Nat, 2 ≤ i ∧ i ≤ n ∧ z = (i : Int) := by
  unfold RS.others
  rw [L.all, L.id, List.mem_filter, ids_mem]
  constructor
  · rintro ⟨⟨k, hk, rfl⟩, h2⟩
    have h3 : ¬ (k : Int) + 1 = 1 := by simpa using h2
    exact ⟨k + 1, by omega, by omega, by omega⟩
  · rintro ⟨i, h2, hi, rfl⟩
    refine ⟨⟨i - 1, by omega, by omega⟩, ?_⟩
    have : ¬ (i : Int) = 1 := by omega
    simp [this]
theorem Heard.lead (L : Lead n s0) (H : Heard n s0 s A R) : Lead n s := by
  obtain ⟨a1, a2, a3, a4, a5, a6, a7, a8, a9, a10⟩ := Core.parts H.core
  have a11 := (Core.all H.core).2.2.1
  exact ⟨L.n1, L.n5, a1.trans L.role, a2.trans L.term, a4.trans L.id, a7.trans L.b, a8.trans L.t, fun e he => L.tms e (by rw [← a6]; exact he), a9.trans L.snap, by rw [a11, a6]; exact L.last, by rw [a5]; exact L.rnd⟩
theorem Heard.knows (L : Lead n s0) (H : Heard n s0 s A R) : s.knows := fun z hz => by
  obtain ⟨i, h2, hi, rfl⟩ := ((H.lead L).oth z).1 hz
  obtain ⟨p, hp, _⟩ := H.ps i h2 hi
  exact ⟨p, hp⟩
theorem kc_len (g : Int → Int) (A : List Int) (x : Int) (h1 : x ≤ g 1) : ∀ m : Nat, (∀ i : Nat, i < m → g ((i : Int) + 2) = HL.el A (i + 2)) → ((idsN (m + 1)).filter fun z => decide (x ≤ g z)).length = kc A x m
  | 0, _ => by
    have : idsN 1 = [1] := rfl
    rw [this]
    simp [h1, kc]
  | m + 1, hg => by
    rw [ids_succ, List.filter_append, List.length_append, kc_len g A x h1 m (fun i hi => hg i (by omega))]
    have e1 : ((m + 1 : Nat) : Int) + 1 = (m : Int) + 2 := by omega
    rw [e1]
    have e2 := hg m (by omega)
    show _ = (if x ≤ HL.el A (m + 2) then kc A x m + 1 else kc A x m)
    by_cases hx : x ≤ HL.el A (m + 2)
    · rw [if_pos hx]
      simp [e2, hx]
    · rw [if_neg hx]
      simp [e2, hx]
theorem Heard.pr (L : Lead n s0) (H : Heard n s0 s A R) (own : Int) (of : Pr → Int) (B : List Int) (hB : ∀ i : Nat, 2 ≤ i → i ≤ n → ∀ p, pget s.ps (i : Int) = some p → of p = HL.el B i) (i : Nat) (h2 : 2 ≤ i) (hi : i ≤ n) : s.has own of (i : Int) = HL.el B i := by
  unfold RS.has
  rw [if_neg (by rw [(H.lead L).id]; omega), (H.knows L).all]
  obtain ⟨p, hp, _⟩ := H.ps i h2 hi
  unfold RS.pr
  rw [hp]
  exact hB i h2 hi p hp
theorem Heard.far_of (L : Lead n s0) (H : Heard n s0 s A R) (own : Int) (of : Pr → Int) (B : List Int) (hB : ∀ i : Nat, 2 ≤ i → i ≤ n → ∀ p, pget s.ps (i : Int) = some p → of p = HL.el B i) (x : Int) (hx : x ≤ own) : x ≤ s.far own of ↔ n / 2 < kc B x (n - 1) := by
  have LL := H.lead L
  have hv : CL.Valid s.all := by rw [LL.all]; exact ids_valid n L.n1 (by have := L.n5; omega)
  rw [far_le hv own of x, LL.all, ids_len]
  have h9 := kc_len (s.has own of) B x (by unfold RS.has; rw [if_pos LL.id.symm]; exact hx) (n - 1) (fun i hi => by
    have := H.pr L own of B hB (i + 2) (by omega) (by have := L.n1; omega)
    rw [← this]
    congr 1)
  rw [show n - 1 + 1 = n by have := L.n1; omega] at h9
  rw [h9]
  unfold CL.quo
  rw [if_neg (by have := L.n1; omega)]
  omega
/-- Nobody is beyond what the leader itself is at. -/
theorem Heard.far_top (L : Lead n s0) (H : Heard n s0 s A R) (own : Int) (of : Pr → Int) (B : List Int) (hB : ∀ i : Nat, 2 ≤ i → i ≤ n → ∀ p, pget s.ps (i : Int) = some p → of p = HL.el B i) (hB2 : ∀ i, HL.el B i ≤ own) : s.far own of ≤ own := by
  have LL := H.lead L
  have hv : CL.Valid s.all := by rw [LL.all]; exact ids_valid n L.n1 (by have := L.n5; omega)
  apply Classical.byContradiction
  intro hc
  have h1 := (far_le hv own of (own + 1)).1 (by omega)
  rw [List.filter_eq_nil_iff.2 (fun z hz => by
    have : s.has own of z ≤ own := by
      by_cases hz1 : z = 1
      · unfold RS.has; rw [if_pos (by rw [LL.id]; exact hz1)]; exact Int.le_refl _
      · rw [LL.all] at hz
        obtain ⟨k, hk, rfl⟩ := (ids_mem n z).1 hz
        have := H.pr L own of B hB (k + 1) (by omega) (by omega)
        rw [show ((k + 1 : Nat) : Int) = (k : Int) + 1 by omega] at this
        rw [this]
        exact hB2 _
    simp
    omega)] at h1
  rw [LL.all, ids_len] at h1
  unfold CL.quo at h1
  rw [if_neg (by have := L.n1; omega)] at h1
  simp at h1
theorem kc_all (B : List Int) (x : Int) (h : ∀ i, x ≤ HL.el B i) : ∀ m, kc B x m = m + 1
  | 0 => rfl
  | m + 1 => by
    unfold kc
    rw [if_pos (h _), kc_all B x h m]
theorem Heard.far_low (L : Lead n s0) (H : Heard n s0 s A R) (own : Int) (of : Pr → Int) (B : List Int) (hB : ∀ i : Nat, 2 ≤ i → i ≤ n → ∀ p, pget s.ps (i : Int) = some p → of p = HL.el B i) (hB2 : ∀ i, 0 ≤ HL.el B i) (ho : 0 ≤ own) : 0 ≤ s.far own of := by
  rw [H.far_of L own of B hB 0 ho, kc_all B 0 hB2]
  have := L.n1
  omega
theorem kc_mono {B B' : List Int} (h : ∀ i, HL.el B i ≤ HL.el B' i) (x : Int) : ∀ m, kc B x m ≤ kc B' x m
  | 0 => Nat.le_refl _
  | m + 1 => by
    have ih := kc_mono h x m
    have h1 := h (m + 2)
    unfold kc
    by_cases hx : x ≤ HL.el B (m + 2)
    · rw [if_pos hx, if_pos (by omega)]; omega
    · rw [if_neg hx]
      split <;> omega
theorem Heard.mtB (H : Heard n s0 s A R) : ∀ i : Nat, 2 ≤ i → i ≤ n → ∀ p, pget s.ps (i : Int) = some p → p.mt = HL.el A i := fun i h2 hi p hp => by
  obtain ⟨q, hq, h3, _⟩ := H.ps i h2 hi
  rw [hp] at hq
  injection hq with hq
  rw [hq]
  exact h3
theorem Heard.rdB (H : Heard n s0 s A R) : ∀ i : Nat, 2 ≤ i → i ≤ n → ∀ p, pget s.ps (i : Int) = some p → p.rd = HL.el R i := fun i h2 hi p hp => by
  obtain ⟨q, hq, _, h3⟩ := H.ps i h2 hi
  rw [hp] at hq
  injection hq with hq
  rw [hq]
  exact h3
/-- How far a quorum is in the log: what stands, whatever core bears it. -/
theorem Heard.far_eq {s' : RS} (L : Lead n s0) (H : Heard n s0 s A R) (H' : Heard n s0 s' A R) : s.far s.last Pr.mt = s'.far s'.last Pr.mt := by
  have e1 : s.last = s0.last := (Core.all H.core).2.2.1
  have e2 : s'.last = s0.last := (Core.all H'.core).2.2.1
  rw [e1, e2]
  have t1 := H.far_top L s0.last Pr.mt A H.mtB (fun i => (H.al i).2)
  have t2 := H'.far_top L s0.last Pr.mt A H'.mtB (fun i => (H.al i).2)
  apply Int.le_antisymm
  · exact (H'.far_of L s0.last Pr.mt A H'.mtB _ t1).2 ((H.far_of L s0.last Pr.mt A H.mtB _ t1).1 (Int.le_refl _))
  · exact (H.far_of L s0.last Pr.mt A H.mtB _ t2).2 ((H'.far_of L s0.last Pr.mt A H'.mtB _ t2).1 (Int.le_refl _))
theorem Heard.far_mono {s' : RS} {A' R' : List Int} (L : Lead n s0) (H : Heard n s0 s A R) (H' : Heard n s0 s' A' R') (hA : ∀ i, HL.el A i ≤ HL.el A' i) : s.far s.last Pr.mt ≤ s'.far s'.last Pr.mt := by
  have e1 : s.last = s0.last := (Core.all H.core).2.2.1
  have e2 : s'.last = s0.last := (Core.all H'.core).2.2.1
  rw [e1, e2]
  have t1 := H.far_top L s0.last Pr.mt A H.mtB (fun i => (H.al i).2)
  have h1 := (H.far_of L s0.last Pr.mt A H.mtB _ t1).1 (Int.le_refl _)
  exact (H'.far_of L s0.last Pr.mt A' H'.mtB _ t1).2 (Nat.lt_of_lt_of_le h1 (kc_mono hA _ _))
theorem pset_get {ps : List (Int × Pr)} {f i : Int} {p q : Pr} (h : pget ps i = some q) : pget (pset ps f p) i = some (if i = f then p else q) := by
  unfold pget pset at *
  rw [List.find?_map, Option.map_map]
  rw [Option.map_eq_some_iff] at h
  obtain ⟨x, hx, rfl⟩ := h
  have h1 := List.find?_some hx
  have h2 : x.1 = i := by simpa using h1
  have e : ((fun x : Int × Pr => x.1 == i) ∘ fun x => if (x.1 == f) = true then (f, p) else x) = fun x => x.1 == i := by
    funext y
    show ((if (y.1 == f) = true then (f, p) else y).1 == i) = (y.1 == i)
    by_cases hy : y.1 = f
    · simp [hy]
    · simp [hy]
  rw [e, hx]
  show some ((if (x.1 == f) = true then (f, p) else x).2) = _
  by_cases hf : i = f
  · rw [if_pos (by simp [h2, hf]), if_pos hf]
  · rw [if_neg (by rw [h2]; simpa using hf), if_neg hf]
theorem term_one (L : Lead n s0) {x : Int} (h1 : 1 ≤ x) (h2 : x ≤ s0.last) : termS s0.b s0.t s0.l x = some 1 := by
  have h3 := L.last
  unfold termS atS
  rw [L.b, L.t, if_neg (by omega), if_neg (by omega)]
  have hk : (x - 0 - 1).toNat < s0.l.length := by omega
  have hm : HL.el s0.l (x - 0 - 1).toNat ∈ s0.l := by
    unfold HL.el
    rw [List.getD_eq_getElem?_getD, List.getElem?_eq_getElem hk]
    exact List.getElem_mem hk
  show some (HL.el s0.l (x - 0 - 1).toNat).tm = some 1
  rw [(L.tms _ hm).1]
theorem el_set {l : List Int} {k j : Nat} {v : Int} (hk : k < l.length) : HL.el (l.set k v) j = if j = k then v else HL.el l j := by
  unfold HL.el
  rw [List.getD_eq_getElem?_getD, List.getD_eq_getElem?_getD]
  by_cases e : j = k
  · subst e
    rw [List.getElem?_set_self hk, if_pos rfl]
    rfl
  · rw [List.getElem?_set_ne (fun h => e h.symm), if_neg e]
theorem send_ps (s : RS) (i : Int) {p : Pr} (h : pget s.ps i = some p) : (s.send i).ps = s.ps ∧ (s.send i).commit = s.commit := by
  have hk : s.know i = s := know_id h
  unfold RS.send
  rw [hk]
  unfold RS.send1
  split <;> exact ⟨rfl, rfl⟩
/-- What a yes of member f makes. -/
def upd (A : List Int) (f : Nat) (x : Int) : List Int := A.set f (max (HL.el A f) x)
theorem el_upd {f j : Nat} {x : Int} (hA : A.length = 6) (hf : f ≤ 5) : HL.el (upd A f x) j = if j = f then max (HL.el A f) x else HL.el A j := by
  unfold upd
  rw [el_set (by omega)]
theorem Heard.step (L : Lead n s0) (H : Heard n s0 s A R) (hc : s.commit = s.far s.last Pr.mt) (f : Nat) (hf2 : 2 ≤ f) (hf5 : f ≤ 5) (ix rd : Int) (h0 : 0 ≤ ix) (hrd : 0 ≤ rd) :
    Heard n s0 (s.stepF (smg 4 f 1 ix rd true)) (if f ≤ n ∧ ix ≤ s0.last then upd A f ix else A) (if f ≤ n ∧ ix ≤ s0.last ∧ rd ≤ s0.round then upd R f rd else R) ∧
      (s.stepF (smg 4 f 1 ix rd true)).commit = (s.stepF (smg 4 f 1 ix rd true)).far (s.stepF (smg 4 f 1 ix rd true)).last Pr.mt ∧ s.commit ≤ (s.stepF (smg 4 f 1 ix rd true)).commit := by
  have LL := H.lead L
  have elast : s.last = s0.last := (Core.all H.core).2.2.1
  have ernd : s.round = s0.round := (Core.parts H.core).2.2.2.2.1
  have hh : s.heeds (smg 4 f 1 ix rd true) := by
    refine ⟨LL.id.symm, ?_, ?_, ?_, ?_, ?_, ?_, ?_⟩
    · show (1 : Int) ≤ (f : Int); omega
    · show (f : Int) ≤ 64; omega
    · rw [LL.id]; show (f : Int) ≠ 1; omega
    · show (1 : Int) ≤ 4; omega
    · show (4 : Int) ≤ 6; omega
    · show (1 : Int) ≤ 1; omega
    · show (1 : Int) ≤ _; omega
  have hst : s.step (smg 4 f 1 ix rd true) = s.appRes (smg 4 f 1 ix rd true) := by
    unfold RS.step RS.step0 RS.turn
    rw [if_pos hh, if_neg (by rw [LL.term]; show ¬ (1 : Int) < 1; omega), if_neg (by rw [LL.term]; show ¬ (1 : Int) < 1; omega)]
    rfl
  have hfin : ∀ (z : RS) (A' R' : List Int), Heard n s0 z A' R' → z.commit = z.far z.last Pr.mt → Heard n s0 z.fin A' R' ∧ z.fin.commit = z.fin.far z.fin.last Pr.mt := fun z A' R' Hz hz => by
    have Hf : Heard n s0 z.fin A' R' := ⟨Hz.core, Hz.ps, Hz.al, Hz.rl, Hz.len⟩
    exact ⟨Hf, by rw [← Hz.far_eq L Hf]; exact hz⟩
  have hstay : s.step (smg 4 f 1 ix rd true) = s → ¬ (f ≤ n ∧ ix ≤ s0.last) → Heard n s0 (s.stepF (smg 4 f 1 ix rd true)) (if f ≤ n ∧ ix ≤ s0.last then upd A f ix else A) (if f ≤ n ∧ ix ≤ s0.last ∧ rd ≤ s0.round then upd R f rd else R) ∧
      (s.stepF (smg 4 f 1 ix rd true)).commit = (s.stepF (smg 4 f 1 ix rd true)).far (s.stepF (smg 4 f 1 ix rd true)).last Pr.mt ∧ s.commit ≤ (s.stepF (smg 4 f 1 ix rd true)).commit := fun e hn => by
    unfold RS.stepF
    rw [e, if_neg hn, if_neg (fun h => hn ⟨h.1, h.2.1⟩)]
    obtain ⟨h1, h2⟩ := hfin s A R H hc
    exact ⟨h1, h2, Int.le_refl _⟩
  by_cases hfn : f ≤ n
  case neg =>
    refine hstay ?_ (fun h => hfn h.1)
    rw [hst]
    unfold RS.appRes
    rw [if_pos (.inr (fun h => by
      obtain ⟨i, _, hi, e⟩ := (LL.oth _).1 h
      have e : (f : Int) = (i : Int) := e
      omega))]
  case pos =>
  obtain ⟨p, hp, hpm, hpr⟩ := H.ps f hf2 hfn
  have hkn : s.know (f : Int) = s := know_id hp
  have hap : s.appRes (smg 4 f 1 ix rd true) = if ix < 0 ∨ s.last < ix then s else s.appYes (smg 4 f 1 ix rd true) := by
    unfold RS.appRes
    rw [if_neg (fun h => h.elim (fun h => h LL.role) (fun h => h ((LL.oth _).2 ⟨f, hf2, hfn, rfl⟩)))]
    show (if true = true ∧ (ix < 0 ∨ s.last < ix) then s.know (f : Int) else if true = false then (s.know (f : Int)).appNo (smg 4 f 1 ix rd true) else (s.know (f : Int)).appYes (smg 4 f 1 ix rd true)) = _
    rw [hkn]
    simp
  by_cases hil : ix ≤ s0.last
  case neg =>
    refine hstay ?_ (fun h => hil h.2)
    rw [hst, hap, if_pos (.inr (by rw [elast]; omega))]
  case pos =>
  have hpr2 : s.pr (f : Int) = p := by unfold RS.pr; rw [hp]; rfl
  rw [if_pos ⟨hfn, hil⟩]
  have hst2 : s.step (smg 4 f 1 ix rd true) = s.appYes (smg 4 f 1 ix rd true) := by rw [hst, hap, if_neg (by rw [elast]; omega)]
  -- what is known of the peer now
  obtain ⟨P, hP⟩ : ∃ P : Pr, P = { s.heard (smg 4 f 1 ix rd true) with mt := max (s.heard (smg 4 f 1 ix rd true)).mt ix, nx := max (s.heard (smg 4 f 1 ix rd true)).nx (max (s.heard (smg 4 f 1 ix rd true)).mt ix + 1) } := ⟨_, rfl⟩
  have hPm : P.mt = max (HL.el A f) ix := by
    rw [hP]
    show max (s.heard (smg 4 f 1 ix rd true)).mt ix = _
    congr 1
    unfold RS.heard
    show (if rd ≤ s.round then ({ s.pr (f : Int) with rd := max (s.pr (f : Int)).rd rd } : Pr) else s.pr (f : Int)).mt = _
    rw [hpr2]
    split <;> exact hpm
  have hPr : P.rd = if rd ≤ s0.round then max (HL.el R f) rd else HL.el R f := by
    rw [hP]
    show (s.heard (smg 4 f 1 ix rd true)).rd = _
    unfold RS.heard
    show (if rd ≤ s.round then ({ s.pr (f : Int) with rd := max (s.pr (f : Int)).rd rd } : Pr) else s.pr (f : Int)).rd = _
    rw [hpr2, ernd]
    by_cases hr : rd ≤ s0.round
    · rw [if_pos hr, if_pos hr]
      show max p.rd rd = _
      rw [hpr]
    · rw [if_neg hr, if_neg hr]
      exact hpr
  obtain ⟨A', hA'⟩ : ∃ A', A' = upd A f ix := ⟨_, rfl⟩
  obtain ⟨R', hR'⟩ : ∃ R', R' = (if f ≤ n ∧ ix ≤ s0.last ∧ rd ≤ s0.round then upd R f rd else R) := ⟨_, rfl⟩
  rw [← hA', ← hR']
  have eA : ∀ j, HL.el A' j = if j = f then max (HL.el A f) ix else HL.el A j := fun j => by rw [hA']; exact el_upd H.len.1 hf5
  have eR : ∀ j, HL.el R' j = if j = f then (if rd ≤ s0.round then max (HL.el R f) rd else HL.el R f) else HL.el R j := fun j => by
    rw [hR']
    by_cases hr : rd ≤ s0.round
    · rw [if_pos ⟨hfn, hil, hr⟩, if_pos hr]; exact el_upd H.len.2 hf5
    · rw [if_neg (fun h => hr h.2.2), if_neg hr]
      split
      · rename_i e; rw [e]
      · rfl
  have Hz : ∀ z : RS, z.core = s0.core → (∀ i q, pget s.ps i = some q → pget z.ps i = some (if i = (f : Int) then P else q)) → Heard n s0 z A' R' := fun z hzc hzp => by
    refine ⟨hzc, fun i h2 hi => ?_, fun j => ?_, fun j => ?_, ?_⟩
    · obtain ⟨q, hq, hq1, hq2⟩ := H.ps i h2 hi
      refine ⟨_, hzp _ _ hq, ?_, ?_⟩
      · rw [eA i]
        by_cases e : i = f
        · rw [if_pos (by omega), if_pos e]; exact hPm
        · rw [if_neg (by omega), if_neg e]; exact hq1
      · rw [eR i]
        by_cases e : i = f
        · rw [if_pos (by omega), if_pos e]; exact hPr
        · rw [if_neg (by omega), if_neg e]; exact hq2
    · rw [eA j]
      have h1 := H.al j
      have h2 := H.al f
      split <;> omega
    · rw [eR j]
      have h1 := H.rl j
      have h2 := H.rl f
      split
      · split <;> omega
      · exact h1
    · constructor
      · rw [hA']; unfold upd; rw [List.length_set]; exact H.len.1
      · rw [hR']; split
        · unfold upd; rw [List.length_set]; exact H.len.2
        · exact H.len.2
  have Hz0 : Heard n s0 (s.setPr (f : Int) P) A' R' := Hz _ ((core_setPr s _ _).trans H.core) (fun i q hq => pset_get hq)
  have hin : (s.setPr (f : Int) P).id ∈ (s.setPr (f : Int) P).all := by
    rw [(Hz0.lead L).all, (Hz0.lead L).id]
    exact ids_one n L.n1
  have hcm : s.far s.last Pr.mt ≤ (s.setPr (f : Int) P).far (s.setPr (f : Int) P).last Pr.mt := H.far_mono L Hz0 (fun i => by rw [eA i]; split <;> rename_i e <;> (try rw [e]) <;> omega)
  have hF : (s.setPr (f : Int) P).count = (s.setPr (f : Int) P).count1 ((s.setPr (f : Int) P).far (s.setPr (f : Int) P).last Pr.mt) := by
    rw [count_in hin, (Hz0.knows L).all]
  have htop := Hz0.far_top L s0.last Pr.mt A' Hz0.mtB (fun i => (Hz0.al i).2)
  have hlow := H.far_low L s0.last Pr.mt A H.mtB (fun i => (H.al i).1) (by have := (H.al 0); omega)
  have elz : (s.setPr (f : Int) P).last = s0.last := (Core.all Hz0.core).2.2.1
  rw [← elz] at htop
  rw [← elast] at hlow
  generalize hz0 : s.setPr (f : Int) P = z0 at *
  have hz0c : z0.commit = s.commit := by rw [← hz0]; rfl
  have hcc : z0.count.commit = z0.far z0.last Pr.mt ∧ z0.count.core = z0.core ∧ z0.count.ps = z0.ps := by
    rw [hF]
    unfold RS.count1
    by_cases hlt : z0.commit < z0.far z0.last Pr.mt
    · rw [if_pos ⟨hlt, by
        have hp0 := Core.parts Hz0.core
        rw [hp0.2.2.2.2.2.2.1, hp0.2.2.2.2.2.2.2.1, hp0.2.2.2.2.2.1, hp0.2.1, L.term]
        exact term_one L (by omega) (by rw [← elz]; exact htop)⟩]
      exact ⟨rfl, rfl, rfl⟩
    · rw [if_neg (fun h => hlt h.1)]
      exact ⟨by omega, rfl, rfl⟩
  have hay : s.appYes (smg 4 f 1 ix rd true) = if z0.count.role = 2 ∧ (z0.count.pr (f : Int)).nx ≤ z0.count.last then z0.count.send (f : Int) else z0.count := by
    rw [← hz0, hP]
    rfl
  have hend : ∃ z, s.appYes (smg 4 f 1 ix rd true) = z ∧ z.core = z0.core ∧ z.ps = z0.ps ∧ z.commit = z0.far z0.last Pr.mt := by
    rw [hay]
    split
    · obtain ⟨q, hq, _⟩ := Hz0.ps f hf2 hfn
      obtain ⟨h1, h2⟩ := send_ps z0.count (f : Int) (by rw [hcc.2.2]; exact hq)
      exact ⟨_, rfl, (core_send _ _).trans hcc.2.1, h1.trans hcc.2.2, h2.trans hcc.1⟩
    · exact ⟨_, rfl, hcc.2.1, hcc.2.2, hcc.1⟩
  obtain ⟨z, hz, hz1, hz2, hz3⟩ := hend
  unfold RS.stepF
  rw [hst2, hz]
  have Hzz : Heard n s0 z A' R' := ⟨hz1.trans Hz0.core, fun i h2 hi => by rw [hz2]; exact Hz0.ps i h2 hi, Hz0.al, Hz0.rl, Hz0.len⟩
  obtain ⟨h1, h2⟩ := hfin z A' R' Hzz (by rw [hz3]; exact Hz0.far_eq L Hzz)
  exact ⟨h1, h2, by show s.commit ≤ z.commit; rw [hz3, hc]; exact hcm⟩
end
end RF
end Go.Proofs.YtaodldagmmephaaGreat
