/- raft, plain: a grown leader that is asked to read. -/
import Derived.Test.YtaodldagmmephaaGreatRk2
import Derived.Test.YtaodldagmmephaaGreatRg7
namespace Go.Proofs.YtaodldagmmephaaGreat
open Go.RowKit Go.Maps
namespace RF
structure Rs (n : Nat) (s : RS) (A R : List Int) : Prop where
  L : Lead n s
  H : Heard n s s A R
  cm : s.commit = s.far s.last Pr.mt
  la : s.last = 1
  vt : s.votes.length ≤ 900
section
variable {n : Nat} {s : RS} {A R : List Int}
theorem rs_start (n : Nat) (h1 : 1 ≤ n) (h5 : n ≤ 5) : Rs n (gP n 0) zero6 zero6 ∧ (gP n 0).round = 0 ∧ (n = 1 → (gP n 0).commit = 1) ∧ (n ≠ 1 → (gP n 0).commit = 0) := by
  obtain ⟨a1, a2, a3, a4, a5, a6, a7, a8⟩ := gP_lead n 0 h1 h5 (by omega)
  exact ⟨⟨a1, a3, a4, a2, a5⟩, a6, a7, a8⟩
theorem Rs.step (h : Rs n s A R) (f : Nat) (hf2 : 2 ≤ f) (hf5 : f ≤ 5) (rd : Int) (hrd : 0 ≤ rd) :
    Rs n (s.stepF (smg 4 f 1 1 rd true)) (if f ≤ n then upd A f 1 else A) (if f ≤ n ∧ rd ≤ s.round then upd R f rd else R) ∧ (s.stepF (smg 4 f 1 1 rd true)).round = s.round ∧ s.commit ≤ (s.stepF (smg 4 f 1 1 rd true)).commit := by
  obtain ⟨h1, h2, h3⟩ := h.H.step h.L h.cm f hf2 hf5 1 rd (by omega) hrd
  have e1 : (f ≤ n ∧ (1 : Int) ≤ s.last) ↔ f ≤ n := ⟨fun x => x.1, fun x => ⟨x, by rw [h.la]; exact Int.le_refl _⟩⟩
  have e2 : (f ≤ n ∧ (1 : Int) ≤ s.last ∧ rd ≤ s.round) ↔ (f ≤ n ∧ rd ≤ s.round) := ⟨fun x => ⟨x.1, x.2.2⟩, fun x => ⟨x.1, by rw [h.la]; exact Int.le_refl _, x.2⟩⟩
  simp only [e1, e2] at h1
  have p := Core.parts h1.core
  have q := Core.all h1.core
  exact ⟨⟨h1.lead h.L, ⟨rfl, h1.ps, fun i => by rw [q.2.2.1]; exact h1.al i, fun i => by rw [p.2.2.2.2.1]; exact h1.rl i, h1.len⟩, h2, q.2.2.1.trans h.la, by rw [p.2.2.2.2.2.2.2.2.2]; exact h.vt⟩, p.2.2.2.2.1, h3⟩
theorem sendAll_known : ∀ (L : List Int) (z : RS), (∀ i ∈ L, ∃ p, pget z.ps i = some p) → (L.foldl RS.send z).ps = z.ps ∧ (L.foldl RS.send z).commit = z.commit
  | [], _, _ => ⟨rfl, rfl⟩
  | y :: L, z, h => by
    obtain ⟨p, hp⟩ := h y List.mem_cons_self
    obtain ⟨h1, h2⟩ := send_ps z y hp
    obtain ⟨h3, h4⟩ := sendAll_known L (z.send y) (fun i hi => by rw [h1]; exact h i (List.mem_cons_of_mem _ hi))
    exact ⟨h3.trans h1, h4.trans h2⟩
theorem Rs.ask (h : Rs n s A R) : Rs n s.ask0.fin A R ∧ s.ask0.fin.round = min (s.round + 1) 4611686018427387904 ∧ s.ask0.fin.commit = s.commit ∨ s.round + 1 > 4611686018427387904 := by
  by_cases hr : s.round + 1 ≤ 4611686018427387904
  case neg => exact .inr (by omega)
  case pos =>
  refine .inl ?_
  have hk0 := h.H.knows h.L
  have hk : ∀ i ∈ ({ s with round := min (s.round + 1) 4611686018427387904 } : RS).others, ∃ p, pget s.ps i = some p := fun i hi => hk0 i hi
  obtain ⟨h1, h2⟩ := sendAll_known ({ s with round := min (s.round + 1) 4611686018427387904 } : RS).others { s with round := min (s.round + 1) 4611686018427387904 } hk
  have hc : s.ask0.fin.core = ({ s with round := min (s.round + 1) 4611686018427387904 } : RS).core := core_sendAll { s with round := min (s.round + 1) 4611686018427387904 }
  have p := Core.parts hc
  have q := Core.all hc
  have hr0 := h.L.rnd
  have er : s.ask0.fin.round = min (s.round + 1) 4611686018427387904 := p.2.2.2.2.1
  have el : s.ask0.fin.last = s.last := q.2.2.1
  have hL : Lead n s.ask0.fin := ⟨h.L.n1, h.L.n5, p.1.trans h.L.role, p.2.1.trans h.L.term, p.2.2.2.1.trans h.L.id, p.2.2.2.2.2.2.1.trans h.L.b, p.2.2.2.2.2.2.2.1.trans h.L.t, fun e he => h.L.tms e (by rw [p.2.2.2.2.2.1] at he; exact he), p.2.2.2.2.2.2.2.2.1.trans h.L.snap, by rw [el, p.2.2.2.2.2.1]; exact h.L.last, by rw [er]; omega⟩
  have hH : Heard n s.ask0.fin s.ask0.fin A R := ⟨rfl, fun i h3 h4 => by
    obtain ⟨pp, h5⟩ := h.H.ps i h3 h4
    refine ⟨pp, ?_, h5.2⟩
    show pget s.ask0.ps (i : Int) = _
    rw [show s.ask0.ps = s.ps from h1]
    exact h5.1, fun i => by rw [el]; exact h.H.al i, fun i => by have := h.H.rl i; rw [er]; omega, h.H.len⟩
  have ec : s.ask0.fin.commit = s.commit := h2
  have h0s : Heard n s.ask0.fin s.ask0.fin A R := hH
  refine ⟨⟨hL, hH, ?_, el.trans h.la, by rw [p.2.2.2.2.2.2.2.2.2]; exact h.vt⟩, er, ec⟩
  rw [ec, h.cm]
  -- the same row of what each has
  have t1 := h.H.far_top h.L s.last Pr.mt A h.H.mtB (fun i => (h.H.al i).2)
  have t2 := hH.far_top hL s.ask0.fin.last Pr.mt A hH.mtB (fun i => (hH.al i).2)
  rw [el] at t2 ⊢
  apply Int.le_antisymm
  · exact (hH.far_of hL s.last Pr.mt A hH.mtB _ t1).2 ((h.H.far_of h.L s.last Pr.mt A h.H.mtB _ t1).1 (Int.le_refl _))
  · exact (h.H.far_of h.L s.last Pr.mt A h.H.mtB _ t2).2 ((hH.far_of hL s.last Pr.mt A hH.mtB _ t2).1 (Int.le_refl _))
theorem kc_full (B : List Int) (x : Int) : ∀ m, (∀ i, i < m → x ≤ HL.el B (i + 2)) → kc B x m = m + 1
  | 0, _ => rfl
  | m + 1, h => by
    show (if x ≤ HL.el B (m + 2) then kc B x m + 1 else kc B x m) = m + 2
    rw [if_pos (h m (by omega)), kc_full B x m (fun i hi => h i (by omega))]
theorem Rs.one (h : Rs n s A R) (hA : ∀ j, 2 ≤ j → j ≤ n → 1 ≤ HL.el A j) : s.commit = 1 := by
  have t1 := h.H.far_top h.L s.last Pr.mt A h.H.mtB (fun i => (h.H.al i).2)
  have t2 := (h.H.far_of h.L s.last Pr.mt A h.H.mtB 1 (by rw [h.la]; omega)).2 (by
    rw [kc_full A 1 (n - 1) (fun i hi => hA (i + 2) (by omega) (by omega))]
    have := h.L.n1
    omega)
  rw [h.cm]
  rw [h.la] at t1 ⊢
  rw [h.la] at t2
  omega
theorem Rs.asks (h : Rs n s A R) (hc : s.commit = 1) : s.askE = 0 := by
  unfold RS.askE
  rw [if_neg (fun e => e h.L.role), if_neg]
  unfold RS.sure
  rw [hc, term_one h.L (by omega) (by rw [h.la]; omega), h.L.term]
  simp
theorem Rs.busy (h : Rs n s A R) (hc : s.commit = 0) : s.askE = 22 := by
  unfold RS.askE
  rw [if_neg (fun e => e h.L.role), if_pos]
  unfold RS.sure termS
  rw [hc, h.L.b, h.L.t, if_pos rfl, h.L.term]
  rfl
theorem Rs.acked (h : Rs n s A R) : s.acked = s := (h.H.knows h.L).all
theorem Rs.ackV (h : Rs n s A R) (B : List Int) (hB : ∀ j, 2 ≤ j → j ≤ n → HL.el B j = HL.el R j) (hB2 : ∀ j, 0 ≤ HL.el B j ∧ HL.el B j ≤ s.round) : (∀ x, x ≤ s.round → (x ≤ s.ackedV ↔ n / 2 < kc B x (n - 1))) ∧ s.ackedV ≤ s.round ∧ 0 ≤ s.ackedV := by
  have hb : ∀ i : Nat, 2 ≤ i → i ≤ n → ∀ p, pget s.ps (i : Int) = some p → p.rd = HL.el B i := fun i h2 hi p hp => by rw [hB i h2 hi]; exact h.H.rdB i h2 hi p hp
  exact ⟨fun x hx => h.H.far_of h.L s.round Pr.rd B hb x hx, h.H.far_top h.L s.round Pr.rd B hb (fun i => (hB2 i).2), h.H.far_low h.L s.round Pr.rd B hb (fun i => (hB2 i).1) h.L.rnd⟩
theorem Rs.fin (h : Rs n s A R) : Rs n s.fin A R := by
  have hH : Heard n s s.fin A R := ⟨rfl, h.H.ps, h.H.al, h.H.rl, h.H.len⟩
  have hH2 : Heard n s.fin s.fin A R := ⟨rfl, h.H.ps, h.H.al, h.H.rl, h.H.len⟩
  exact ⟨hH.lead h.L, hH2, by rw [← h.H.far_eq h.L hH]; exact h.cm, h.la, h.vt⟩
theorem Rs.lone (h : Rs 1 s A R) : s.ackedV = s.round := by
  obtain ⟨h1, h2, h3⟩ := h.ackV zero6 (fun j h2 h1 => by omega) (fun j => by rw [zero6_el]; exact ⟨Int.le_refl _, h.L.rnd⟩)
  have := (h1 s.round (Int.le_refl _)).2 (by show 1 / 2 < 1; omega)
  omega
end
end RF
end Go.Proofs.YtaodldagmmephaaGreat
