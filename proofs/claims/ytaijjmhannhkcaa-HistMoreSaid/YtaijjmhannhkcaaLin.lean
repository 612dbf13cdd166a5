/- hist.Linear. -/
import Derived.Test.YtaijjmhannhkcaaHOrd
namespace Go.Proofs.Ytaijjmhannhkcaa
open Go.RowKit Go.Maps

/-- An event of a key, of a known kind. -/
def GoodE (zs : List Ev) (i : Nat) : Prop := (zs.getD i default).key = (zs.getD 0 default).key ∧ 1 ≤ (zs.getD i default).kind ∧ (zs.getD i default).kind ≤ 4

def keepI (zs : List Ev) (x : Int) : Bool := keepE (zs.getD x.toNat default)
def keptI (zs : List Ev) (os : List Int) : List Int := os.filter (keepI zs)

/-- What stands in loop 2: the search with what is kept so far. -/
structure LinS (w w2 : World) (sb mb : Nat) (zs : List Ev) (ks : List Int) (tv : Value) (need : Nat) (wr : World) : Prop where
  c0 : wr.cell? ⟨sb, 0, none⟩ = some tv
  f0 : wr.frozen? ⟨sb, 0, none⟩ = false
  c1 : wr.cell? ⟨sb, 1, none⟩ = some (.int .i64 need)
  f1 : wr.frozen? ⟨sb, 1, none⟩ = false
  c2 : wr.cell? ⟨sb, 2, none⟩ = some (.map (some mb))
  row : wr.ownsRow w2.heap.size 29 14 tv ks.length (rowOf evc (pick zs ks))
  seen : SeenR mb 0 (fun _ => False) wr
  bel : Below w.heap.size w wr
  fr : Fr (fun b => b = sb) w2 wr

theorem LinS.keep {w w2 wr wr' : World} {sb mb need : Nat} {zs : List Ev} {ks : List Int} {tv : Value} (h : LinS w w2 sb mb zs ks tv need wr) (hb : Below wr.heap.size wr wr') : LinS w w2 sb mb zs ks tv need wr' := by
  have hF : Fr (fun _ => False) wr wr' := Fr.of_all hb
  have hl := cell_lt h.c0
  exact ⟨(hb.cell (p := ⟨sb, 0, none⟩) hl).trans h.c0, (hb.frozen (p := ⟨sb, 0, none⟩) hl).trans h.f0, (hb.cell (p := ⟨sb, 1, none⟩) hl).trans h.c1, (hb.frozen (p := ⟨sb, 1, none⟩) hl).trans h.f1, (hb.cell (p := ⟨sb, 2, none⟩) hl).trans h.c2, hF.owns h.row (fun _ _ h => h), h.seen.keep hF (fun h => h), h.bel.trans (hb.mono h.bel.size), Fr.trans h.fr (Fr.of_all (S := fun b => b = sb) hb) (fun _ h _ => h)⟩

/-- The events of a slice lie beside a block of three cells. -/
theorem rd_fr3 {w wr : World} {p : Option Addr} {k sb : Nat} {l : List Ev} (h : RdG evc w w.heap.size p k l) (h3 : ∀ j, 3 ≤ j → w.cell? ⟨sb, j, none⟩ = none) (hF : Fr (fun b => b = sb) w wr) : RdG evc wr wr.heap.size p k l := by
  refine ⟨h.1, fun hn => ?_⟩
  obtain ⟨b, o, e, hb, hc⟩ := h.2 hn
  have hne : b ≠ sb := fun e => by
    have h1 := rowOf_at evc evc_length l 0 13 (by rw [h.1]; exact hn) (by omega)
    have h2 := hc 13 _ (h1.trans rfl)
    rw [e, h3 (o + 13) (by omega)] at h2
    cases h2
  exact ⟨b, o, e, Nat.lt_of_lt_of_le hb hF.size, fun j u hu => (hF.cell (p := ⟨b, o + j, none⟩) hb hne).trans (hc j u hu)⟩

theorem pick_get (zs : List Ev) (os : List Int) (i : Nat) (hi : i < os.length) : (pick zs os).getD i default = zs.getD (os[i]).toNat default := by
  simp [pick, List.getD, hi]

theorem lin_push {w w2 W1 w5 : World} {sb mb g cap need H : Nat} {zs : List Ev} {ks : List Int} {tp : Option Addr} {tc : Nat} {x : Int} {ev : Ev} {o : Obj} (h : LinS w w2 sb mb zs ks (.slice tp ks.length tc) need W1) (hsb : sb < w2.heap.size) (hmb : mb < w2.heap.size) (hne : mb ≠ sb) (hw : w.heap.size ≤ sb) (hpk : pick zs [x] = [ev])
    (hown : w5.ownsRow w2.heap.size 29 14 (.slice (some ⟨g, 0, none⟩) (ks.length + 1) cap) (ks.length + 1) (rowOf evc (pick zs ks) ++ evc ev)) (hgr : (W1.alloc o).drew.grownBy w5 (Value.slice tp ks.length tc).ownBlock) (hat : (Value.slice tp ks.length tc).ownBlock = some g ∨ g = H) (hH : W1.heap.size ≤ H) :
    LinS w w2 sb mb zs (ks ++ [x]) (.slice (some ⟨g, 0, none⟩) (ks.length + 1) cap) need (w5.setCell ⟨sb, 0, none⟩ (.slice (some ⟨g, 0, none⟩) (ks.length + 1) cap)) := by
  have hlt := cell_lt h.c0
  change sb < _ at hlt
  have hge : ∀ i, (Value.slice tp ks.length tc).ownBlock = some i → w2.heap.size ≤ i := fun i e => (h.row.lt i e).1
  have hnb : (Value.slice tp ks.length tc).ownBlock ≠ some sb := fun e => by have := hge _ e; omega
  have hpf := push_facts hlt hnb hgr
  have hc := (World.cell?_of_block (a := ⟨sb, 0, none⟩) hpf.1).trans h.c0
  have hf := (World.frozen?_of_block (a := ⟨sb, 0, none⟩) hpf.1).trans h.f0
  obtain ⟨e1, e2, e3, e4, _, _, e7⟩ := push_end hlt hnb hpf hown hat hH hc hf
  have hS : ∀ i, (i = sb ∨ (Value.slice tp ks.length tc).ownBlock = some i) → i < w2.heap.size → i = sb := fun i hi hl => by
    rcases hi with e | e
    · exact e
    · have := hge _ e; omega
  refine ⟨e1, e2, (e7 1 (by omega)).1.trans h.c1, (e7 1 (by omega)).2.trans h.f1, (e7 2 (by omega)).1.trans h.c2, ?_, h.seen.keep e4 (fun e => hne (hS _ e hmb)), h.bel.trans (e4.below h.bel.size (fun i hi => ?_)), Fr.trans h.fr e4 (fun i hi hl => hS i hi hl)⟩
  · rw [List.length_append]
    have e : pick zs (ks ++ [x]) = pick zs ks ++ [ev] := by rw [← hpk]; simp [pick]
    rw [e, rowOf_append, rowOf_one]
    exact e3
  · rcases hi with e | e
    · omega
    · have := hge _ e; omega

theorem keptI_next (zs : List Ev) (os : List Int) (i : Nat) (hi : i < os.length) : keptI zs (os.take (i + 1)) = keptI zs (os.take i) ++ (if keepI zs os[i] then [os[i]] else []) := by
  unfold keptI
  rw [List.take_succ_eq_append_getElem hi, List.filter_append]
  congr 1
  by_cases h : keepI zs os[i] = true
  · rw [if_pos h, List.filter_cons_of_pos h]
    rfl
  · rw [if_neg h, List.filter_cons_of_neg h]
    rfl

theorem pick_vals {zs : List Ev} {ks : List Int} {k : Nat} (hk : ∀ x ∈ ks, x ∈ upI k) (hv : ∀ i, i < k → (zs.getD i default).val.size ≤ maxLen) : ∀ i, i < ks.length → ((pick zs ks).getD i default).val.size ≤ maxLen := by
  intro i hi
  rw [pick_get zs ks i hi]
  have h1 := hk _ (List.getElem_mem hi)
  unfold upI at h1
  obtain ⟨y, hy, e⟩ := List.mem_map.1 h1
  rw [← e]
  exact hv y (by simpa using hy)

theorem lin_ord {zs : List Ev} {os : List Int} (hp : os.Perm (upI zs.length)) : goM (pick zs (keptI zs os)) 0 hst0 ↔ OrdOf zs := by
  have hids : ((keptI zs os).map Int.toNat).Nodup := by
    have h1 : (os.map Int.toNat).Perm (List.range zs.length) := by
      have := hp.map Int.toNat
      have e : (upI zs.length).map Int.toNat = List.range zs.length := by
        unfold upI
        rw [List.map_map]
        conv => rhs; rw [← List.map_id (List.range zs.length)]
        rfl
      rwa [e] at this
    exact (h1.nodup_iff.2 List.nodup_range).sublist ((List.filter_sublist).map _)
  have hmem : ∀ i, i ∈ (keptI zs os).map Int.toNat ↔ i < zs.length ∧ keepE (zs.getD i default) = true := fun i => by
    unfold keptI
    rw [List.mem_map]
    constructor
    · rintro ⟨x, hx, rfl⟩
      obtain ⟨h1, h2⟩ := List.mem_filter.1 hx
      have h3 := hp.mem_iff.1 h1
      unfold upI at h3
      obtain ⟨y, hy, rfl⟩ := List.mem_map.1 h3
      exact ⟨by simpa using hy, h2⟩
    · rintro ⟨h1, h2⟩
      exact ⟨(i : Int), List.mem_filter.2 ⟨hp.mem_iff.2 (List.mem_map.2 ⟨i, List.mem_range.2 h1, rfl⟩), h2⟩, by simp⟩
  refine Iff.trans ?_ (ordL_iff (E := fun i => zs.getD i default) hids hmem)
  have hln : (pick zs (keptI zs os)).length = ((keptI zs os).map Int.toNat).length := by simp [pick]
  have hE : ∀ b, b < ((keptI zs os).map Int.toNat).length → zs.getD (((keptI zs os).map Int.toNat).getD b 0) default = (pick zs (keptI zs os)).getD b default := fun b hb => by
    have hb' : b < (keptI zs os).length := by simpa using hb
    simp [pick, List.getD, List.getElem?_eq_getElem hb']
  unfold goM OrdL
  constructor
  · intro h
    refine h.sim (fun b => b) (fun b hb => by rw [← hln]; exact hb) (fun j hj => ⟨j, by rw [hln]; exact hj, rfl⟩) (fun _ _ _ _ e => e) (fun b hb => ?_) _ (fun b hb => ?_)
    · exact hE b (by rw [← hln]; exact hb)
    · simp
  · intro h
    refine h.sim (fun b => b) (fun b hb => by rw [hln]; exact hb) (fun j hj => ⟨j, by rw [← hln]; exact hj, rfl⟩) (fun _ _ _ _ e => e) (fun b hb => ?_) _ (fun b hb => ?_)
    · exact (hE b hb).symm
    · simp

theorem hb_next64 (u j : Nat) (hu : u < 2 ^ 62) (hj : j < 62) : bits .or .i64 (u : Int) (wrap64 (2 ^ j)) = ((nextM u j : Nat) : Int) := by
  unfold wrap64
  rw [← IntKind.wrap_i64]
  exact hb_next u j hu hj

/-- The bits of the first j that say what happened. -/
def NeedJ (L : List Ev) (j need : Nat) : Prop := ∀ b, need.testBit b = true ↔ b < j ∧ (L.getD b default).sure = true
theorem NeedJ.lt {L : List Ev} {j need : Nat} (h : NeedJ L j need) : need < 2 ^ j := by
  refine Nat.lt_pow_two_of_testBit need (fun i hi => ?_)
  cases hb : need.testBit i
  · rfl
  · have := ((h i).1 hb).1
    omega
theorem NeedJ.next {L : List Ev} {j need : Nat} (h : NeedJ L j need) : NeedJ L (j + 1) (if (L.getD j default).sure = true then nextM need j else need) := by
  intro b
  by_cases hs : (L.getD j default).sure = true
  · rw [if_pos hs, nextM_bit, h b]
    constructor
    · rintro (⟨h1, h2⟩ | rfl)
      · exact ⟨by omega, h2⟩
      · exact ⟨by omega, hs⟩
    · rintro ⟨h1, h2⟩
      by_cases e : b = j
      · exact .inr e
      · exact .inl ⟨by omega, h2⟩
  · rw [if_neg hs, h b]
    constructor
    · rintro ⟨h1, h2⟩
      exact ⟨by omega, h2⟩
    · rintro ⟨h1, h2⟩
      by_cases e : b = j
      · subst e; exact absurd h2 hs
      · exact ⟨by omega, h2⟩

theorem LinS.need_set {w w2 wr : World} {sb mb need need' : Nat} {zs : List Ev} {ks : List Int} {tv : Value} (h : LinS w w2 sb mb zs ks tv need wr) (hsb : sb < w2.heap.size) (hne : mb ≠ sb) (hw : w.heap.size ≤ sb) : LinS w w2 sb mb zs ks tv need' (wr.setCell ⟨sb, 1, none⟩ (.int .i64 need')).drew := by
  have hF : Fr (fun b => b = sb) wr (wr.setCell ⟨sb, 1, none⟩ (.int .i64 need')).drew := ((Fr.refl (fun b => b = sb) wr).setCell (p := ⟨sb, 1, none⟩) (fun _ => rfl) _).drew
  have hO : Others sb 1 wr (wr.setCell ⟨sb, 1, none⟩ (.int .i64 need')).drew := Others.set sb 1 wr (.int .i64 need')
  exact ⟨(hO 0 (by omega)).1.trans h.c0, (hO 0 (by omega)).2.trans h.f0, cell_set_same _ _ _ _ h.c1, (frozen_set _ _ _ _).trans h.f1, (hO 2 (by omega)).1.trans h.c2, hF.owns h.row (fun g hg e => by have := (h.row.lt g hg).1; omega), h.seen.keep hF hne, h.bel.trans (hF.below h.bel.size (fun i e => by omega)), Fr.trans h.fr hF (fun _ e _ => e)⟩

set_option maxHeartbeats 8000000 in
set_option maxRecDepth 100000 in
theorem linear_ok (lp : Option Addr) (m ec : Nat) (zs : List Ev) (w : World) (h : RdG evc w w.heap.size lp m zs) (hm : m ≤ 16) (hg : ∀ i, i < m → GoodE zs i) (hv : ∀ i, i < m → (zs.getD i default).val.size ≤ maxLen) :
    Calls Try.prog 7 #[.slice lp m ec] w fun e w' => ((e = .returned (.tuple #[.bool true, .int .i64 0]) ∧ OrdOf zs) ∨ (e = .returned (.tuple #[.bool false, .int .i64 0]) ∧ ¬ OrdOf zs)) ∧ Below w.heap.size w w' := by
  obtain ⟨i0, hi0, hz0, hz1, hz2⟩ := info_parts info_ev
  have HR := Lib.hid h
  have HG := Lib.hid hg
  have HV := Lib.hid hv
  clear h hg hv
  go_enter Try.func7, Try.ntmps7
  go_wp2
  go_loopw [13] (fun iv wr => ∃ k : Nat, k ≤ m ∧ iv = .int .i64 k ∧ Hid (Below w.heap.size w wr)) (fun iv _ => m - (intOf iv).toNat)
  case atStart => exact ⟨0, Nat.zero_le _, rfl, Lib.hid (Below.refl _ _)⟩
  case round =>
    obtain ⟨k, hk, rfl, HB⟩ := hrel
    by_cases hlt : k < m
    · have hltI : (k : Int) < (m : Int) := by omega
      have hmI : (0 : Int) < (m : Int) := by omega
      have hRr := HR.out.below HB.out
      obtain ⟨b, o, elp, hb9, hcell⟩ := ev_cell hRr k hlt
      obtain ⟨b', o', elp', _, hcel0⟩ := ev_cell hRr 0 (by omega)
      rw [elp] at elp'
      injection elp' with e9
      injection e9 with e1 e2 _
      subst e1 e2 elp
      have hgk := HG.out k hlt
      have k0 : wr.cell? ⟨b, o + 5, none⟩ = some (.string (zs.getD 0 default).key) := by
        have := hcel0 5 _ rfl (by omega)
        rw [Nat.zero_mul, Nat.add_zero] at this
        exact this
      unfold GoodE at hgk
      generalize (zs.getD 0 default).key = key0 at *
      generalize zs.getD k default = ev at *
      obtain ⟨client, num, kind, sess, sq, key, val, old, err, rval, rnum, frm, to, done⟩ := ev
      obtain ⟨hk1, hk2, hk3⟩ := hgk
      have hk1 : key = key0 := hk1
      have hk2 : 1 ≤ kind := hk2
      have hk3 : kind ≤ 4 := hk3
      subst hk1
      have d0 : wr.cell? ⟨b, o + k * 14, none⟩ = some (.int .i64 client) := hcell 0 _ rfl (by omega)
      have d1 : wr.cell? ⟨b, o + k * 14 + 1, none⟩ = some (.int .i64 num) := hcell 1 _ rfl (by omega)
      have d2 : wr.cell? ⟨b, o + k * 14 + 2, none⟩ = some (.int .i64 kind) := hcell 2 _ rfl (by omega)
      have d3 : wr.cell? ⟨b, o + k * 14 + 3, none⟩ = some (.int .i64 sess) := hcell 3 _ rfl (by omega)
      have d4 : wr.cell? ⟨b, o + k * 14 + 4, none⟩ = some (.int .i64 sq) := hcell 4 _ rfl (by omega)
      have d5 : wr.cell? ⟨b, o + k * 14 + 5, none⟩ = some (.string key) := hcell 5 _ rfl (by omega)
      have d6 : wr.cell? ⟨b, o + k * 14 + 6, none⟩ = some (.string val) := hcell 6 _ rfl (by omega)
      have d7 : wr.cell? ⟨b, o + k * 14 + 7, none⟩ = some (.string old) := hcell 7 _ rfl (by omega)
      have d8 : wr.cell? ⟨b, o + k * 14 + 8, none⟩ = some (.int .i64 err) := hcell 8 _ rfl (by omega)
      have d9 : wr.cell? ⟨b, o + k * 14 + 9, none⟩ = some (.string rval) := hcell 9 _ rfl (by omega)
      have d10 : wr.cell? ⟨b, o + k * 14 + 10, none⟩ = some (.int .i64 rnum) := hcell 10 _ rfl (by omega)
      have d11 : wr.cell? ⟨b, o + k * 14 + 11, none⟩ = some (.int .i64 frm) := hcell 11 _ rfl (by omega)
      have d12 : wr.cell? ⟨b, o + k * 14 + 12, none⟩ = some (.int .i64 to) := hcell 12 _ rfl (by omega)
      have d13 : wr.cell? ⟨b, o + k * 14 + 13, none⟩ = some (.bool done) := hcell 13 _ rfl (by omega)
      have hal : Below wr.heap.size wr (wr.alloc (.cells #[.int .i64 client, .int .i64 num, .int .i64 kind, .int .i64 sess, .int .i64 sq, .string key, .string val, .string old, .int .i64 err, .string rval, .int .i64 rnum, .int .i64 frm, .int .i64 to, .bool done] 29)) := (Below.refl _ wr).alloc (Nat.le_refl _) _
      have hrow := heap_alloc_new wr (.cells #[.int .i64 client, .int .i64 num, .int .i64 kind, .int .i64 sess, .int .i64 sq, .string key, .string val, .string old, .int .i64 err, .string rval, .int .i64 rnum, .int .i64 frm, .int .i64 to, .bool done] 29)
      have l0 := cell_lt k0
      generalize hW : (wr.alloc (.cells #[.int .i64 client, .int .i64 num, .int .i64 kind, .int .i64 sess, .int .i64 sq, .string key, .string val, .string old, .int .i64 err, .string rval, .int .i64 rnum, .int .i64 frm, .int .i64 to, .bool done] 29)) = wa at *
      have hza : wa.heap.size = wr.heap.size + 1 := by rw [← hW]; simp
      have q0 : ∀ q : Later wa, q.1.cell? ⟨b, o + 5, none⟩ = some (.string key) := fun q => ((hal.trans (q.2.mono hal.size)).cell (p := ⟨b, o + 5, none⟩) l0).trans k0
      have q5 : ∀ q : Later wa, q.1.cell? ⟨wr.heap.size, 5, none⟩ = some (.string key) := fun q => (q.2.cell (p := ⟨wr.heap.size, 5, none⟩) (by show wr.heap.size < _; omega)).trans (by rw [cell_of_row _ _ _ _ _ _ hrow]; rfl)
      have q2 : ∀ q : Later wa, q.1.cell? ⟨wr.heap.size, 2, none⟩ = some (.int .i64 kind) := fun q => (q.2.cell (p := ⟨wr.heap.size, 2, none⟩) (by show wr.heap.size < _; omega)).trans (by rw [cell_of_row _ _ _ _ _ _ hrow]; rfl)
      have HBA : Hid (Below w.heap.size w wa) := Lib.hid (HB.out.trans (hal.mono HB.out.size))
      have p1 : decide (kind < 1) = false := decide_eq_false (by omega)
      have p2 : decide (4 < kind) = false := decide_eq_false (by omega)
      clear hcell hcel0 k0 hk2 hk3 hal hrow l0 hza hRr
      go_wp2
      clear d0 d1 d2 d3 d4 d5 d6 d7 d8 d9 d10 d11 d12 d13 hW
      refine wp_region_later (by kernel_rfl) (by kernel_rfl) ?_
      repeat (go_big_quiet_step (fail))
      refine wpQuiet_nil ?_
      intro W1 hw'
      obtain ⟨⟨wq, hq⟩, hw''⟩ := hw'
      subst hw''
      have HB1 := Lib.hid (HBA.out.trans (hq.mono HBA.out.size))
      clear q0 q5 q2 p1 p2 hq
      go_wp2
      go_roundw
      case rel => exact ⟨k + 1, by omega, by simp, HB1⟩
      case measure => simp [intOf]; omega
    · obtain rfl : k = m := by omega
      have hltI : ¬ (k : Int) < (k : Int) := by omega
      have hmm := @run_makeMap Try.prog
      have hut := Try.underlying49
      have HBY := Lib.hid (by_begin lp k ec zs wr ((HR.out.below HB.out).more HB.out.size) (by omega))
      have hba : Below wr.heap.size wr ((wr.alloc (.map #[] 0)).alloc (.cells #[.slice none 0 0, .int .i64 0, .map (some wr.heap.size)] 51)) := ((Below.refl _ wr).alloc (Nat.le_refl _) _).alloc (by simp) _
      have HBY2 := Lib.hid (by_begin lp k ec zs ((wr.alloc (.map #[] 0)).alloc (.cells #[.slice none 0 0, .int .i64 0, .map (some wr.heap.size)] 51)) ((HR.out.below (HB.out.trans (hba.mono HB.out.size))).more (Nat.le_trans HB.out.size hba.size)) (by omega))
      have hz2 : ((wr.alloc (.map #[] 0)).alloc (.cells #[.slice none 0 0, .int .i64 0, .map (some wr.heap.size)] 51)).heap.size = wr.heap.size + 2 := by simp
      have HLB : Hid (∀ W, Below ((wr.alloc (.map #[] 0)).alloc (.cells #[.slice none 0 0, .int .i64 0, .map (some wr.heap.size)] 51)).heap.size ((wr.alloc (.map #[] 0)).alloc (.cells #[.slice none 0 0, .int .i64 0, .map (some wr.heap.size)] 51)) W → LinS w W (wr.heap.size + 1) wr.heap.size zs [] (.slice none 0 0) 0 W) := Lib.hid (fun W hW => by
        have hrow := heap_alloc_new (wr.alloc (.map #[] 0)) (.cells #[.slice none 0 0, .int .i64 0, .map (some wr.heap.size)] 51)
        have hs1 : (wr.alloc (.map #[] 0)).heap.size = wr.heap.size + 1 := by simp
        rw [hs1] at hrow
        have hc : ∀ k u, (#[Value.slice none 0 0, .int .i64 0, .map (some wr.heap.size)])[k]? = some u → W.cell? ⟨wr.heap.size + 1, k, none⟩ = some u := fun k u hu => (hW.cell (p := ⟨wr.heap.size + 1, k, none⟩) (by show wr.heap.size + 1 < _; omega)).trans (by rw [cell_of_row _ _ _ _ _ _ hrow]; exact hu)
        have hf : ∀ k, W.frozen? ⟨wr.heap.size + 1, k, none⟩ = false := fun k => (hW.frozen (p := ⟨wr.heap.size + 1, k, none⟩) (by show wr.heap.size + 1 < _; omega)).trans (by unfold World.frozen?; rw [hrow]; simp)
        have hsn : SeenR wr.heap.size 0 (fun _ => False) ((wr.alloc (.map #[] 0)).alloc (.cells #[.slice none 0 0, .int .i64 0, .map (some wr.heap.size)] 51)) := by
          exact ⟨.map [], (World.ownsMap_made wr Try.prog 74 unitElem).alloc _, tidy_empty, fun u s _ _ => ⟨fun h => (by cases h), fun h => h.elim⟩⟩
        exact ⟨hc 0 _ rfl, hf 0, hc 1 _ rfl, hf 1, hc 2 _ rfl, World.ownsRow_nil _ _ _ _, hsn.keep (Fr.of_all (S := fun _ => False) hW) (fun h => h), (HB.out.trans (hba.mono HB.out.size)).trans (hW.mono (Nat.le_trans HB.out.size hba.size)), Fr.refl _ _⟩)
      clear hba HBY
      go_wp2_with fail
      refine HBY2.out.mono ?_
      rintro e w2 ⟨p, c, os, rfl, hper, hrd, hb2⟩
      have HL0 := Lib.hid (HLB.out w2 hb2)
      have HC3 : Hid (∀ j, 3 ≤ j → w2.cell? ⟨wr.heap.size + 1, j, none⟩ = none) := Lib.hid (fun j hj => by
        have hrow := heap_alloc_new (wr.alloc (.map #[] 0)) (.cells #[.slice none 0 0, .int .i64 0, .map (some wr.heap.size)] 51)
        have hs1 : (wr.alloc (.map #[] 0)).heap.size = wr.heap.size + 1 := by simp
        rw [hs1] at hrow
        rw [hb2.cell (p := ⟨wr.heap.size + 1, j, none⟩) (by show wr.heap.size + 1 < _; rw [hz2]; omega), cell_of_row _ _ _ _ _ _ hrow]
        exact Array.getElem?_eq_none (by simpa using hj))
      have HMS : Hid (wr.heap.size + 2 ≤ w2.heap.size ∧ w.heap.size ≤ wr.heap.size) := Lib.hid ⟨by have := hb2.size; omega, HB.out.size⟩
      have HPER := Lib.hid hper
      have HRD2 := Lib.hid hrd
      have hosl : os.length = k := by have := hper.length_eq; simpa [upI] using this
      have HOSL := Lib.hid hosl
      clear hper hrd hb2 HLB HBY2 hosl hmm hut hz2
      generalize wr.heap.size = mb at *
      go_wp2
      go_loopw [48] (fun iv wq => ∃ i : Nat, i ≤ k ∧ iv = .int .i64 i ∧ ∃ tv, Hid (LinS w w2 (mb + 1) mb zs (keptI zs (os.take i)) tv 0 wq)) (fun iv _ => k - (intOf iv).toNat)
      case atStart => exact ⟨0, Nat.zero_le _, rfl, .slice none 0 0, HL0⟩
      case round =>
        obtain ⟨i, hi, rfl, tv, HL⟩ := hrel
        by_cases hlt : i < k
        · have hltI : (i : Int) < (k : Int) := by omega
          have hio : i < os.length := by have := HOSL.out; omega
          obtain ⟨b, o, elp, _, hcell⟩ := ev_cell (rd_fr3 HRD2.out HC3.out HL.out.fr) i hlt
          have hkn := keptI_next zs os i hio
          have hpg := pick_get zs os i hio
          rw [hpg] at hcell
          have hke : keepI zs os[i] = keepE (zs.getD (os[i]).toNat default) := rfl
          have hpk : pick zs [os[i]] = [zs.getD (os[i]).toNat default] := rfl
          rw [hke] at hkn
          generalize zs.getD (os[i]).toNat default = ev at *
          generalize os[i] = x at *
          have HKN := Lib.hid hkn
          have HPK := Lib.hid hpk
          subst elp
          have d0 : wr.cell? ⟨b, o + i * 14, none⟩ = some (.int .i64 ev.client) := hcell 0 _ rfl (by omega)
          have d1 : wr.cell? ⟨b, o + i * 14 + 1, none⟩ = some (.int .i64 ev.num) := hcell 1 _ rfl (by omega)
          have d2 : wr.cell? ⟨b, o + i * 14 + 2, none⟩ = some (.int .i64 ev.kind) := hcell 2 _ rfl (by omega)
          have d3 : wr.cell? ⟨b, o + i * 14 + 3, none⟩ = some (.int .i64 ev.sess) := hcell 3 _ rfl (by omega)
          have d4 : wr.cell? ⟨b, o + i * 14 + 4, none⟩ = some (.int .i64 ev.sq) := hcell 4 _ rfl (by omega)
          have d5 : wr.cell? ⟨b, o + i * 14 + 5, none⟩ = some (.string ev.key) := hcell 5 _ rfl (by omega)
          have d6 : wr.cell? ⟨b, o + i * 14 + 6, none⟩ = some (.string ev.val) := hcell 6 _ rfl (by omega)
          have d7 : wr.cell? ⟨b, o + i * 14 + 7, none⟩ = some (.string ev.old) := hcell 7 _ rfl (by omega)
          have d8 : wr.cell? ⟨b, o + i * 14 + 8, none⟩ = some (.int .i64 ev.err) := hcell 8 _ rfl (by omega)
          have d9 : wr.cell? ⟨b, o + i * 14 + 9, none⟩ = some (.string ev.rval) := hcell 9 _ rfl (by omega)
          have d10 : wr.cell? ⟨b, o + i * 14 + 10, none⟩ = some (.int .i64 ev.rnum) := hcell 10 _ rfl (by omega)
          have d11 : wr.cell? ⟨b, o + i * 14 + 11, none⟩ = some (.int .i64 ev.frm) := hcell 11 _ rfl (by omega)
          have d12 : wr.cell? ⟨b, o + i * 14 + 12, none⟩ = some (.int .i64 ev.to) := hcell 12 _ rfl (by omega)
          have d13 : wr.cell? ⟨b, o + i * 14 + 13, none⟩ = some (.bool ev.done) := hcell 13 _ rfl (by omega)
          have hal : Below wr.heap.size wr (wr.alloc (.cells #[.int .i64 ev.client, .int .i64 ev.num, .int .i64 ev.kind, .int .i64 ev.sess, .int .i64 ev.sq, .string ev.key, .string ev.val, .string ev.old, .int .i64 ev.err, .string ev.rval, .int .i64 ev.rnum, .int .i64 ev.frm, .int .i64 ev.to, .bool ev.done] 29)) := (Below.refl _ wr).alloc (Nat.le_refl _) _
          have hrow := heap_alloc_new wr (.cells #[.int .i64 ev.client, .int .i64 ev.num, .int .i64 ev.kind, .int .i64 ev.sess, .int .i64 ev.sq, .string ev.key, .string ev.val, .string ev.old, .int .i64 ev.err, .string ev.rval, .int .i64 ev.rnum, .int .i64 ev.frm, .int .i64 ev.to, .bool ev.done] 29)
          have HKP : Hid (∀ W, Below (wr.alloc (.cells #[.int .i64 ev.client, .int .i64 ev.num, .int .i64 ev.kind, .int .i64 ev.sess, .int .i64 ev.sq, .string ev.key, .string ev.val, .string ev.old, .int .i64 ev.err, .string ev.rval, .int .i64 ev.rnum, .int .i64 ev.frm, .int .i64 ev.to, .bool ev.done] 29)).heap.size (wr.alloc (.cells #[.int .i64 ev.client, .int .i64 ev.num, .int .i64 ev.kind, .int .i64 ev.sess, .int .i64 ev.sq, .string ev.key, .string ev.val, .string ev.old, .int .i64 ev.err, .string ev.rval, .int .i64 ev.rnum, .int .i64 ev.frm, .int .i64 ev.to, .bool ev.done] 29)) W → (∀ k u, #[.int .i64 ev.client, .int .i64 ev.num, .int .i64 ev.kind, .int .i64 ev.sess, .int .i64 ev.sq, .string ev.key, .string ev.val, .string ev.old, .int .i64 ev.err, .string ev.rval, .int .i64 ev.rnum, .int .i64 ev.frm, .int .i64 ev.to, .bool ev.done][k]? = some u → W.cell? ⟨wr.heap.size, k, none⟩ = some u) ∧ LinS w w2 (mb + 1) mb zs (keptI zs (os.take i)) tv 0 W) := Lib.hid (fun W hW => ⟨fun k u hu => (hW.cell (p := ⟨wr.heap.size, k, none⟩) (by show wr.heap.size < _; simp)).trans (by rw [cell_of_row _ _ _ _ _ _ hrow]; exact hu), HL.out.keep (hal.trans (hW.mono hal.size))⟩)
          have HKL : Hid ((keptI zs (os.take i)).length ≤ i) := Lib.hid (by unfold keptI; exact Nat.le_trans (List.length_filter_le _ _) (by simp; omega))
          clear hkn hpk hpg hcell hal hrow hke hio
          go_wp2_with fail
          clear d0 d1 d2 d3 d4 d5 d6 d7 d8 d9 d10 d11 d12 d13
          refine (hist_sure ev _).mono ?_
          rintro e W1 ⟨rfl, hb1⟩
          obtain ⟨hcx, hls⟩ := HKP.out _ hb1
          have HLS := Lib.hid hls
          have m0 : W1.cell? ⟨wr.heap.size, 0, none⟩ = some (.int .i64 ev.client) := hcx 0 _ rfl
          have m1 : W1.cell? ⟨wr.heap.size, 1, none⟩ = some (.int .i64 ev.num) := hcx 1 _ rfl
          have m2 : W1.cell? ⟨wr.heap.size, 2, none⟩ = some (.int .i64 ev.kind) := hcx 2 _ rfl
          have m3 : W1.cell? ⟨wr.heap.size, 3, none⟩ = some (.int .i64 ev.sess) := hcx 3 _ rfl
          have m4 : W1.cell? ⟨wr.heap.size, 4, none⟩ = some (.int .i64 ev.sq) := hcx 4 _ rfl
          have m5 : W1.cell? ⟨wr.heap.size, 5, none⟩ = some (.string ev.key) := hcx 5 _ rfl
          have m6 : W1.cell? ⟨wr.heap.size, 6, none⟩ = some (.string ev.val) := hcx 6 _ rfl
          have m7 : W1.cell? ⟨wr.heap.size, 7, none⟩ = some (.string ev.old) := hcx 7 _ rfl
          have m8 : W1.cell? ⟨wr.heap.size, 8, none⟩ = some (.int .i64 ev.err) := hcx 8 _ rfl
          have m9 : W1.cell? ⟨wr.heap.size, 9, none⟩ = some (.string ev.rval) := hcx 9 _ rfl
          have m10 : W1.cell? ⟨wr.heap.size, 10, none⟩ = some (.int .i64 ev.rnum) := hcx 10 _ rfl
          have m11 : W1.cell? ⟨wr.heap.size, 11, none⟩ = some (.int .i64 ev.frm) := hcx 11 _ rfl
          have m12 : W1.cell? ⟨wr.heap.size, 12, none⟩ = some (.int .i64 ev.to) := hcx 12 _ rfl
          have m13 : W1.cell? ⟨wr.heap.size, 13, none⟩ = some (.bool ev.done) := hcx 13 _ rfl
          have c0 := HLS.out.c0
          clear hb1 hcx hls HKP
          cases hs : ev.sure
          · by_cases hq : ev.kind = 4
            · have hq2 : (ev.kind == 4) = true := by simpa using hq
              have hkf : keepE ev = false := by unfold keepE; rw [hs]; simpa using hq
              have HKF := Lib.hid hkf
              clear hkf hq hs
              go_wp2
              go_roundw
              case rel => exact ⟨i + 1, by omega, by simp, tv, Lib.hid (by rw [HKN.out, HKF.out]; simpa using HLS.out)⟩
              case measure => simp [intOf]; omega
            · have hq2 : (ev.kind == 4) = false := by simpa using hq
              have hkt : keepE ev = true := by unfold keepE; rw [hs]; simpa using hq
              have HKT := Lib.hid hkt
              clear hkt hq hs
              go_wp2_with fail
              obtain ⟨tp, tc, rfl⟩ := owns_slice HLS.out.row
              generalize hks : keptI zs (os.take i) = ks at *
              have HO := Lib.hid HLS.out.row
              have hkl := HKL.out
              have hl0 : mb + 1 < W1.heap.size := cell_lt c0
              go_region_law (refine step_append_lies _ rfl _ _ 33 rfl w2.heap.size 29 i0 _ 14 144 Try.underlying33 hi0 hz0 hz1 hz2 rfl (by omega) (.slice tp ks.length tc) ks.length (rowOf evc (pick zs ks)) rfl (HO.out.drew.alloc _) ⟨W1.heap.size, 0, none⟩ 1 1 (evc ev) rfl rfl (new_cells W1.drew _ _) (by simp [evc, Value.oneCell']) (by omega) (by unfold maxLen; omega) (by omega) (by have := HLS.out.fr.size; simp; omega) (W1.heap.size + 1) (by simp) ?_; intro g cap w5 hown hgr hat hg; have HLP := Lib.hid (lin_push HLS.out (by have := HMS.out; omega) (by have := HMS.out; omega) (by omega) (by have := HMS.out; omega) HPK.out hown hgr hat (by omega)); have hcw : w5.cell? ⟨mb + 1, 0, none⟩ = some (.slice tp ks.length tc) := (World.cell?_of_block (a := ⟨mb + 1, 0, none⟩) (push_facts (cell_lt HLS.out.c0) (fun e => by have := (HLS.out.row.lt _ e).1; have := HMS.out; change w2.heap.size ≤ mb + 1 at *; omega) hgr).1).trans HLS.out.c0; have hcf : w5.frozen? ⟨mb + 1, 0, none⟩ = false := (World.frozen?_of_block (a := ⟨mb + 1, 0, none⟩) (push_facts (cell_lt HLS.out.c0) (fun e => by have := (HLS.out.row.lt _ e).1; have := HMS.out; change w2.heap.size ≤ mb + 1 at *; omega) hgr).1).trans HLS.out.f0; clear hown hat hgr)
              all_goals
                go_wp2
                go_roundw
                case rel => exact ⟨i + 1, by omega, by simp, _, Lib.hid (by rw [HKN.out, HKT.out]; exact HLP.out)⟩
                case measure => simp [intOf]; omega
          · have hkt : keepE ev = true := by unfold keepE; rw [hs]; rfl
            have HKT := Lib.hid hkt
            clear hkt hs
            go_wp2_with fail
            obtain ⟨tp, tc, rfl⟩ := owns_slice HLS.out.row
            generalize hks : keptI zs (os.take i) = ks at *
            have HO := Lib.hid HLS.out.row
            have hkl := HKL.out
            have hl0 : mb + 1 < W1.heap.size := cell_lt c0
            go_region_law (refine step_append_lies _ rfl _ _ 33 rfl w2.heap.size 29 i0 _ 14 144 Try.underlying33 hi0 hz0 hz1 hz2 rfl (by omega) (.slice tp ks.length tc) ks.length (rowOf evc (pick zs ks)) rfl (HO.out.drew.alloc _) ⟨W1.heap.size, 0, none⟩ 1 1 (evc ev) rfl rfl (new_cells W1.drew _ _) (by simp [evc, Value.oneCell']) (by omega) (by unfold maxLen; omega) (by omega) (by have := HLS.out.fr.size; simp; omega) (W1.heap.size + 1) (by simp) ?_; intro g cap w5 hown hgr hat hg; have HLP := Lib.hid (lin_push HLS.out (by have := HMS.out; omega) (by have := HMS.out; omega) (by omega) (by have := HMS.out; omega) HPK.out hown hgr hat (by omega)); have hcw : w5.cell? ⟨mb + 1, 0, none⟩ = some (.slice tp ks.length tc) := (World.cell?_of_block (a := ⟨mb + 1, 0, none⟩) (push_facts (cell_lt HLS.out.c0) (fun e => by have := (HLS.out.row.lt _ e).1; have := HMS.out; change w2.heap.size ≤ mb + 1 at *; omega) hgr).1).trans HLS.out.c0; have hcf : w5.frozen? ⟨mb + 1, 0, none⟩ = false := (World.frozen?_of_block (a := ⟨mb + 1, 0, none⟩) (push_facts (cell_lt HLS.out.c0) (fun e => by have := (HLS.out.row.lt _ e).1; have := HMS.out; change w2.heap.size ≤ mb + 1 at *; omega) hgr).1).trans HLS.out.f0; clear hown hat hgr)
            all_goals
              go_wp2
              go_roundw
              case rel => exact ⟨i + 1, by omega, by simp, _, Lib.hid (by rw [HKN.out, HKT.out]; exact HLP.out)⟩
              case measure => simp [intOf]; omega
        · obtain rfl : i = k := by omega
          have hltI : ¬ (i : Int) < (i : Int) := by omega
          have htk : os.take i = os := List.take_of_length_le (by have := HOSL.out; omega)
          rw [htk] at HL
          obtain ⟨tp, tc, rfl⟩ := owns_slice HL.out.row
          have HKL : Hid ((keptI zs os).length ≤ i) := Lib.hid (by unfold keptI; exact Nat.le_trans (List.length_filter_le _ _) (Nat.le_of_eq HOSL.out))
          generalize hks : keptI zs os = ks at HL HKL
          have HKS := Lib.hid hks
          clear hks
          have c0 := HL.out.c0
          clear htk HL0 HRD2
          go_wp2
          have HN0 : Hid (NeedJ (pick zs ks) 0 0) := Lib.hid (fun b => ⟨fun h => by simp at h, fun h => absurd h.1 (Nat.not_lt_zero _)⟩)
          clear c0
          go_loopw [76] (fun iv wq => ∃ j : Nat, j ≤ ks.length ∧ iv = .int .i64 j ∧ ∃ need : Nat, Hid (LinS w w2 (mb + 1) mb zs ks (.slice tp ks.length tc) need wq ∧ NeedJ (pick zs ks) j need)) (fun iv _ => ks.length - (intOf iv).toNat)
          case atStart => exact ⟨0, Nat.zero_le _, rfl, 0, Lib.hid ⟨HL.out, HN0.out⟩⟩
          case round =>
            clear HL HN0
            obtain ⟨j, hj, rfl, need, HJ⟩ := hrel
            by_cases hlt : j < ks.length
            · have hltI : (j : Int) < (ks.length : Int) := by omega
              obtain ⟨b, o, elp, _, hcell⟩ := ev_cell (RdG.of_own HJ.out.1.row (by simp [pick])) j hlt
              have hnx := HJ.out.2.next
              have h16 : j < 16 := by have := HKL.out; omega
              generalize (pick zs ks).getD j default = ev at *
              have HNX := Lib.hid hnx
              subst elp
              have d0 : wr.cell? ⟨b, o + j * 14, none⟩ = some (.int .i64 ev.client) := hcell 0 _ rfl (by omega)
              have d1 : wr.cell? ⟨b, o + j * 14 + 1, none⟩ = some (.int .i64 ev.num) := hcell 1 _ rfl (by omega)
              have d2 : wr.cell? ⟨b, o + j * 14 + 2, none⟩ = some (.int .i64 ev.kind) := hcell 2 _ rfl (by omega)
              have d3 : wr.cell? ⟨b, o + j * 14 + 3, none⟩ = some (.int .i64 ev.sess) := hcell 3 _ rfl (by omega)
              have d4 : wr.cell? ⟨b, o + j * 14 + 4, none⟩ = some (.int .i64 ev.sq) := hcell 4 _ rfl (by omega)
              have d5 : wr.cell? ⟨b, o + j * 14 + 5, none⟩ = some (.string ev.key) := hcell 5 _ rfl (by omega)
              have d6 : wr.cell? ⟨b, o + j * 14 + 6, none⟩ = some (.string ev.val) := hcell 6 _ rfl (by omega)
              have d7 : wr.cell? ⟨b, o + j * 14 + 7, none⟩ = some (.string ev.old) := hcell 7 _ rfl (by omega)
              have d8 : wr.cell? ⟨b, o + j * 14 + 8, none⟩ = some (.int .i64 ev.err) := hcell 8 _ rfl (by omega)
              have d9 : wr.cell? ⟨b, o + j * 14 + 9, none⟩ = some (.string ev.rval) := hcell 9 _ rfl (by omega)
              have d10 : wr.cell? ⟨b, o + j * 14 + 10, none⟩ = some (.int .i64 ev.rnum) := hcell 10 _ rfl (by omega)
              have d11 : wr.cell? ⟨b, o + j * 14 + 11, none⟩ = some (.int .i64 ev.frm) := hcell 11 _ rfl (by omega)
              have d12 : wr.cell? ⟨b, o + j * 14 + 12, none⟩ = some (.int .i64 ev.to) := hcell 12 _ rfl (by omega)
              have d13 : wr.cell? ⟨b, o + j * 14 + 13, none⟩ = some (.bool ev.done) := hcell 13 _ rfl (by omega)
              have hal : Below wr.heap.size wr (wr.alloc (.cells #[.int .i64 ev.client, .int .i64 ev.num, .int .i64 ev.kind, .int .i64 ev.sess, .int .i64 ev.sq, .string ev.key, .string ev.val, .string ev.old, .int .i64 ev.err, .string ev.rval, .int .i64 ev.rnum, .int .i64 ev.frm, .int .i64 ev.to, .bool ev.done] 29)) := (Below.refl _ wr).alloc (Nat.le_refl _) _
              have HKP : Hid (∀ W, Below (wr.alloc (.cells #[.int .i64 ev.client, .int .i64 ev.num, .int .i64 ev.kind, .int .i64 ev.sess, .int .i64 ev.sq, .string ev.key, .string ev.val, .string ev.old, .int .i64 ev.err, .string ev.rval, .int .i64 ev.rnum, .int .i64 ev.frm, .int .i64 ev.to, .bool ev.done] 29)).heap.size (wr.alloc (.cells #[.int .i64 ev.client, .int .i64 ev.num, .int .i64 ev.kind, .int .i64 ev.sess, .int .i64 ev.sq, .string ev.key, .string ev.val, .string ev.old, .int .i64 ev.err, .string ev.rval, .int .i64 ev.rnum, .int .i64 ev.frm, .int .i64 ev.to, .bool ev.done] 29)) W → LinS w w2 (mb + 1) mb zs ks (.slice (some ⟨b, o, none⟩) ks.length tc) need W) := Lib.hid (fun W hW => HJ.out.1.keep (hal.trans (hW.mono hal.size)))
              clear hnx hcell hal
              go_wp2_with fail
              clear d0 d1 d2 d3 d4 d5 d6 d7 d8 d9 d10 d11 d12 d13
              refine (hist_sure ev _).mono ?_
              rintro e W1 ⟨rfl, hb1⟩
              have hls := HKP.out _ hb1
              have HLS := Lib.hid hls
              clear hb1 hls HKP
              cases hs : ev.sure
              · have hnn := HNX.out
                rw [hs] at hnn
                have HNN : Hid (NeedJ (pick zs ks) (j + 1) need) := Lib.hid hnn
                clear hnn hs
                go_wp2
                go_roundw
                case rel => exact ⟨j + 1, by omega, by simp, need, Lib.hid ⟨HLS.out, HNN.out⟩⟩
                case measure => simp [intOf]; omega
              · have hnn := HNX.out
                rw [hs] at hnn
                have HNN : Hid (NeedJ (pick zs ks) (j + 1) (nextM need j)) := Lib.hid hnn
                have hnlt : need < 2 ^ 16 := Nat.lt_of_lt_of_le HJ.out.2.lt (Nat.pow_le_pow_right (by omega) (by omega))
                have HOR : Hid (bits .or .i64 (need : Int) (wrap64 (2 ^ j)) = ((nextM need j : Nat) : Int)) := Lib.hid (hb_next64 need j (by omega) (by omega))
                have c1 := HLS.out.c1
                have f1 := HLS.out.f1
                clear hnn hs hnlt
                go_wp2_with fail
                apply wp_join
                case h =>
                  go_region
                  all_goals exact ⟨rfl, rfl, rfl⟩
                have HLQ : Hid (LinS w w2 (mb + 1) mb zs ks (.slice (some ⟨b, o, none⟩) ks.length tc) (nextM need j) (W1.setCell ⟨mb + 1, 1, none⟩ (.int .i64 (bits .or .i64 (need : Int) (wrap64 (2 ^ j))))).drew) := Lib.hid (by rw [HOR.out]; exact HLS.out.need_set (need' := nextM need j) (by have := HMS.out; omega) (by omega) (by have := HMS.out; omega))
                clear c1 f1
                go_wp2
                go_roundw
                case rel => exact ⟨j + 1, by omega, by simp, nextM need j, Lib.hid ⟨HLQ.out, HNN.out⟩⟩
                case measure => simp [intOf]; omega
            · obtain rfl : j = ks.length := by omega
              have hltI : ¬ ((ks.length : Nat) : Int) < (ks.length : Int) := by omega
              have HORD : Hid (∀ W, Fr (fun _ => False) wr W → Calls Try.prog 18 #[.pointer (some ⟨mb + 1, 0, none⟩), .int .i64 0, .agg #[.bool false, .string ByteArray.empty]] W (OrdR mb 0 (callsT (cntU ks.length 0)) (pick zs ks) 0 hst0 (fun _ => False) W)) := Lib.hid (fun W hW => by
                have hls := HJ.out.1
                have hk16 : ks.length ≤ 16 := by have := HKL.out; omega
                have hC : OrdC (mb + 1) ks.length need tc mb tp (pick zs ks) := ⟨hk16, by simp [pick], Nat.lt_of_lt_of_le HJ.out.2.lt (Nat.pow_le_pow_right (by omega) hk16), fun b => by
                  have := HJ.out.2 b
                  rwa [show ks.length = (pick zs ks).length by simp [pick]] at this, pick_vals (by rw [← HKS.out]; exact fun x hx => HPER.out.mem_iff.1 (List.mem_filter.1 hx).1) HV.out, by omega, fun a e => by
                  have := (hls.row.lt a.block (by rw [e]; rfl)).1
                  have := HMS.out
                  omega⟩
                have hSr : SrI (mb + 1) ks.length need tc mb tp (pick zs ks) wr := ⟨hls.c0, hls.c1, hls.c2, RdG.of_own hls.row (by simp [pick])⟩
                have := hist_order hC (cntU ks.length 0) 0 hst0 W 0 (fun _ => False) rfl (Nat.pow_pos (by omega)) (by unfold hst0 maxLen; simp) (hSr.fr hC (hW.mono (fun _ _ h => h.elim))) (hls.seen.keep hW (fun h => h)) (fun _ h => h.elim) (by have := callsT_16 (Nat.le_trans (cntU_le ks.length 0) hk16); omega)
                exact this)
              have HLB : Hid (∀ W, Fr (fun k => k = mb) wr W → Below w.heap.size w W) := Lib.hid (fun W hW => HJ.out.1.bel.trans (hW.below HJ.out.1.bel.size (fun i e => by have := HMS.out; omega)))
              have HLO : Hid (goM (pick zs ks) 0 hst0 ↔ OrdOf zs) := Lib.hid (by rw [← HKS.out]; exact lin_ord (by rw [HR.out.1]; exact HPER.out))
              have c0 := HJ.out.1.c0
              clear HJ
              go_wp2_with fail
              refine (HORD.out _ (Fr.refl _ _)).mono ?_
              rintro e W2 ⟨⟨rfl, hg⟩ | ⟨rfl, hg, _⟩, hF⟩
              · have HG1 : Hid (OrdOf zs) := Lib.hid (HLO.out.1 hg)
                have HB1 := Lib.hid (HLB.out _ hF)
                clear hg hF c0
                go_wp2
                go_ret2
                exact ⟨.inl ⟨rfl, HG1.out⟩, HB1.out⟩
              · have HG1 : Hid (¬ OrdOf zs) := Lib.hid (fun h => hg (HLO.out.2 h))
                have HB1 := Lib.hid (HLB.out _ hF)
                clear hg hF c0
                go_wp2
                go_ret2
                exact ⟨.inr ⟨rfl, HG1.out⟩, HB1.out⟩
end Go.Proofs.Ytaijjmhannhkcaa
