/- Chapter 20: arguments of little bulk opened (for RaftVotes). -/
import Derived.Test.YtaodldagmmephaaGreatRv3
import Derived.Test.YtaodldagmmephaaGreatRows
namespace Go.Proofs.YtaodldagmmephaaGreat
open Go.ChangeShapes Go.WideShapes Go.ChangeAt Go.RowKit Go.Deep
open _root_.Go.Proofs.YtaodldagmmephaaGreat.Rows (uptoBulk uptoBulkAll)
section
variable {H : Type} {enc : TypeId × Value → H} {P : Program} {w : World}
theorem bulk_all {d : DataW H} {l : List (DataW H)} (h : d ∈ l) : uptoBulk d ≤ uptoBulkAll l := by
  induction l with
  | nil => cases h
  | cons a r ih =>
    simp only [uptoBulkAll]
    rcases List.mem_cons.1 h with rfl | h
    · omega
    · have := ih h; omega
theorem bulk_pos (d : DataW H) : 1 ≤ uptoBulk d := by
  cases d with
  | lit l => cases l <;> simp [uptoBulk]
  | _ => simp [uptoBulk]
theorem bulk_len (l : List (DataW H)) : l.length ≤ uptoBulkAll l := by
  induction l with
  | nil => simp
  | cons a r ih =>
    have := bulk_pos a
    simp only [uptoBulkAll, List.length_cons]
    omega
theorem bulk_str {t : TypeId} (ht : P.underlying t = some .string) {n : Nat} {s : ByteArray} {x : DataW H × List MemPlace}
    (h : DataW.trod enc P w 0 (fun _ => true) true n t [.string s] = some x) : s.size ≤ uptoBulk x.1 := by
  obtain ⟨s', e, rfl, _⟩ := DataW.trod_string ht h
  injection e with e _
  injection e with e
  subst e
  simp only [uptoBulk]
  have : s.data.toList.length = s.size := Array.length_toList
  omega
theorem bulk_sl {t e : TypeId} (ht : P.underlying t = some (.slice e)) {n : Nat} {p : Option Addr} {len cap : Nat} {x : DataW H × List MemPlace}
    (h : DataW.trod enc P w 0 (fun _ => true) true n t [.slice p len cap] = some x) : len ≤ uptoBulk x.1 := by
  rcases open_slice ht h with ⟨hcs, _⟩ | ⟨a, len', cap', m, n, D, Pl, hcs, _, hl, _, hm, hx, hi⟩
  · injection hcs with hcs _
    injection hcs with h1 h2 h3
    subst h2
    exact Nat.zero_le _
  · injection hcs with hcs _
    injection hcs with h1 h2 h3
    subst h1 h2 h3
    subst hx
    simp only [uptoBulk]
    have := bulk_len ((List.range len).map D)
    rw [List.length_map, List.length_range] at this
    omega
/-- A struct's fields, each of no more bulk than the whole. -/
theorem struct_bulk {fs : Array Field} {t : TypeId} (ht : P.underlying t = some (.struct fs)) {n : Nat} {cs : List Value} {y : DataW H × List MemPlace}
    (h : DataW.trod enc P w 0 (fun _ => true) true n t cs = some y) :
    ∃ m, ∀ (j : Nat) (fd : Field), fs[j]? = some fd → ∃ z, DataW.trod enc P w 0 (fun _ => true) true m fd.type ((cs.drop fd.offset).take (P.cellsOf fd.type)) = some z ∧ uptoBulk z.1 ≤ uptoBulk y.1 := by
  obtain ⟨ys, m, _, rfl, hl, hyl, hf⟩ := DataW.trod_struct ht h
  refine ⟨m, fun j fd hj => ?_⟩
  have hjl : j < fs.size := (Array.getElem?_eq_some_iff.1 hj).1
  have h1 := hf j fd hj
  rw [show ys[j]? = some (ys[j]'(by omega)) from List.getElem?_eq_getElem (by omega)] at h1
  refine ⟨_, h1, ?_⟩
  have := bulk_all (l := ys.map (·.1)) (List.mem_map.2 ⟨_, List.getElem_mem (by omega : j < ys.length), rfl⟩)
  simp only [uptoBulk]
  omega
/-- A slice whose elements each read by f; each element of no more bulk than the whole. -/
theorem open_bulk {α : Type} [Inhabited α] (f : α → List Value) {size : Nat} (hf : ∀ x, (f x).length = size) (hs : 0 < size) (good : α → Prop) {t e : TypeId} (ht : P.underlying t = some (.slice e)) (hC : P.cellsOf e = size) {B : Nat}
    (hel : ∀ n cs' y, DataW.trod enc P w 0 (fun _ => true) true n e cs' = some y → uptoBulk y.1 ≤ B → ∃ x, cs' = f x ∧ good x) {fuel : Nat} {p : Option Addr} {len cap : Nat} {x : DataW H × List MemPlace}
    (h : DataW.trod enc P w 0 (fun _ => true) true fuel t [.slice p len cap] = some x) (hB : uptoBulk x.1 ≤ B) : ∃ zs, RdG f w w.heap.size p len zs ∧ ∀ z ∈ zs, good z := by
  rcases open_slice ht h with ⟨hcs, _⟩ | ⟨a, len', cap', m, n, D, Pl, hcs, _, hl, _, hm, hxx, hi⟩
  · injection hcs with hcs _
    injection hcs with h1 h2 h3
    subst h1 h2 h3
    exact ⟨[], RdG.nil, by simp⟩
  · injection hcs with hcs _
    injection hcs with h1 h2 h3
    subst h1 h2 h3
    simp only [if_true] at hm
    have hD : ∀ i, i < len → uptoBulk (D i) ≤ B := fun i hlt => by
      subst hxx
      have := bulk_all (l := (List.range len).map D) (List.mem_map.2 ⟨i, List.mem_range.2 hlt, rfl⟩)
      simp only [uptoBulk] at hB
      omega
    have hx : ∀ i, ∃ x, i < len → (w.cells? 0 (a.add (i * size)) size = some (f x) ∧ good x) := by
      intro i
      by_cases hlt : i < len
      · obtain ⟨cs', hc, ht'⟩ := hi i (by omega)
        obtain ⟨x, rfl, hg⟩ := hel _ _ _ ht' (hD i hlt)
        rw [hC] at hc
        exact ⟨x, fun _ => ⟨hc, hg⟩⟩
      · exact ⟨default, fun h => absurd h hlt⟩
    let X : Nat → α := fun i => Classical.choose (hx i)
    have hX : ∀ i, i < len → (w.cells? 0 (a.add (i * size)) size = some (f (X i)) ∧ good (X i)) := fun i => Classical.choose_spec (hx i)
    refine ⟨(List.range len).map X, ⟨by simp, fun hn => ?_⟩, ?_⟩
    · obtain ⟨b, o, sp⟩ := a
      obtain ⟨_, hl0, hc0⟩ := World.cells?_some (hX 0 hn).1
      have h0 := hc0 0 hs
      have hsome : ∃ u, (f (X 0))[0]? = some u := ⟨_, List.getElem?_eq_getElem (by omega)⟩
      obtain ⟨u0, hu0⟩ := hsome
      rw [hu0] at h0
      have hsp : sp = none := by simpa [Addr.add] using World.cell?_spot h0
      subst hsp
      have hb : b < w.heap.size := by have := cell_lt h0; simpa [Addr.add] using this
      refine ⟨b, o, rfl, hb, fun j u hu => ?_⟩
      have hj : j < len * size := by
        have := (List.getElem?_eq_some_iff.1 hu).1
        rw [rowOf_length f hf] at this
        simpa using this
      have hk : j / size < len := Nat.div_lt_of_lt_mul (by rw [Nat.mul_comm]; exact hj)
      have hr : j % size < size := Nat.mod_lt _ hs
      have hjj : j = j / size * size + j % size := by rw [Nat.mul_comm]; exact (Nat.div_add_mod j size).symm
      have e1 := rowOf_at f hf ((List.range len).map X) (j / size) (j % size) (by simpa using hk) hr
      rw [← hjj, hu] at e1
      have e2 : ((List.range len).map X).getD (j / size) default = X (j / size) := by
        rw [List.getD_eq_getElem?_getD, List.getElem?_map, List.getElem?_range hk]
        rfl
      rw [e2] at e1
      obtain ⟨_, _, hcc⟩ := World.cells?_some (hX _ hk).1
      have e3 := hcc (j % size) hr
      rw [add_at, add_at, ← e1] at e3
      rw [hjj, ← Nat.add_assoc]
      exact e3
    · intro z hz
      obtain ⟨i, hi', rfl⟩ := List.mem_map.1 hz
      exact (hX i (List.mem_range.1 hi')).2
/-- Where a slice that is handed in lies. -/
theorem ok_plain {r : Reach} {b0 : Nat} {t e : TypeId} (ht : P.underlying t = some (.slice e)) {p : Option Addr} {len cap : Nat} (h : Value.okWide P w r b0 t (.slice p len cap)) : (∃ b o, p = some ⟨b, o, none⟩) ∨ p = none ∧ cap = 0 := by
  simp only [Value.okWide, ht, Cell.okWide] at h
  cases p with
  | none =>
    right
    refine ⟨rfl, ?_⟩
    simp only [Cell.ok, ht] at h
    split at h <;> simp_all
  | some a =>
    left
    simp only [Cell.ok, ht] at h
    obtain ⟨_, _, _, hs, _⟩ := h
    obtain ⟨b, o, s⟩ := a
    exact ⟨b, o, by simp only at hs; rw [hs]⟩
end
section
variable {H : Type} {enc : TypeId × Value → H} {w : World}
namespace RF
set_option maxRecDepth 100000 in
theorem ent_bulk {B : Nat} : ∀ n cs' y, DataW.trod enc Tryz.prog w 0 (fun _ => true) true n 25 cs' = some y → uptoBulk y.1 ≤ B → ∃ e : En, cs' = ecells e ∧ e.da.size ≤ B := by
  intro n cs' y h hB
  obtain ⟨e, rfl, _⟩ := elem_en n cs' y h
  obtain ⟨m, hf⟩ := struct_bulk Tryz.underlying25 h
  obtain ⟨z3, f3, hz⟩ := hf 3 _ rfl
  change DataW.trod enc Tryz.prog w 0 (fun _ => true) true m 9 (List.take (Tryz.prog.cellsOf 9) [.string e.da]) = some z3 at f3
  rw [size_string] at f3
  change DataW.trod enc Tryz.prog w 0 (fun _ => true) true m 9 [.string e.da] = some z3 at f3
  exact ⟨e, rfl, Nat.le_trans (bulk_str Tryz.underlying9 f3) (Nat.le_trans hz hB)⟩
set_option maxRecDepth 100000 in
theorem msg_bulk {B : Nat} : ∀ n cs' y, DataW.trod enc Tryz.prog w 0 (fun _ => true) true n 48 cs' = some y → uptoBulk y.1 ≤ B →
    ∃ z : Mg × Mx, cs' = mxc z ∧ (MsgOk z.1 z.2 w ∧ z.1.en.length ≤ B ∧ z.2.nm ≤ B ∧ z.2.np ≤ B) := by
  intro n cs' y h hB
  obtain ⟨m0, x0, rfl, hok⟩ := elem_msg n cs' y h
  obtain ⟨m, hf⟩ := struct_bulk Tryz.underlying48 h
  obtain ⟨z10, f10, hz10⟩ := hf 10 _ rfl
  change DataW.trod enc Tryz.prog w 0 (fun _ => true) true m 23 (List.take (Tryz.prog.cellsOf 23) [.slice x0.pe m0.en.length x0.ce, .slice x0.pm x0.nm x0.cm, .int .i64 x0.of, .slice x0.pp x0.np x0.cp]) = some z10 at f10
  rw [size_lapi_Entry] at f10
  change DataW.trod enc Tryz.prog w 0 (fun _ => true) true m 23 [.slice x0.pe m0.en.length x0.ce] = some z10 at f10
  obtain ⟨z11, f11, hz11⟩ := hf 11 _ rfl
  change DataW.trod enc Tryz.prog w 0 (fun _ => true) true m 32 (List.take (Tryz.prog.cellsOf 32) [.slice x0.pm x0.nm x0.cm, .int .i64 x0.of, .slice x0.pp x0.np x0.cp]) = some z11 at f11
  rw [size_lint] at f11
  change DataW.trod enc Tryz.prog w 0 (fun _ => true) true m 32 [.slice x0.pm x0.nm x0.cm] = some z11 at f11
  obtain ⟨z13, f13, hz13⟩ := hf 13 _ rfl
  change DataW.trod enc Tryz.prog w 0 (fun _ => true) true m 46 (List.take (Tryz.prog.cellsOf 46) [.slice x0.pp x0.np x0.cp]) = some z13 at f13
  rw [size_lapi_Pair] at f13
  change DataW.trod enc Tryz.prog w 0 (fun _ => true) true m 46 [.slice x0.pp x0.np x0.cp] = some z13 at f13
  exact ⟨(m0, x0), rfl, hok, Nat.le_trans (bulk_sl Tryz.underlying23 f10) (Nat.le_trans hz10 hB), Nat.le_trans (bulk_sl Tryz.underlying32 f11) (Nat.le_trans hz11 hB), Nat.le_trans (bulk_sl Tryz.underlying46 f13) (Nat.le_trans hz13 hB)⟩
set_option maxRecDepth 100000 in
theorem elem_bool {B : Nat} : ∀ n cs' y, DataW.trod enc Tryz.prog w 0 (fun _ => true) true n 4 cs' = some y → uptoBulk y.1 ≤ B → ∃ b : Bool, cs' = bcl b ∧ True := by
  intro n cs' y h _
  obtain ⟨b, rfl, _⟩ := DataW.trod_bool Tryz.underlying4 h
  exact ⟨b, rfl, trivial⟩
set_option maxRecDepth 100000 in
/-- RaftVotes, of arguments as they are handed in, of little bulk. -/
theorem votes_said {r : Reach} {b0 : Nat} {p1 p2 p3 : Option Addr} {n1 c1 n2 c2 n3 c3 : Nat} {d0 d1 d2 : DataW H} {q0 q1 q2 : List MemPlace}
    (hv : Value.okWide Tryz.prog w r b0 23 (.slice p1 n1 c1))
    (h0 : DataW.Trod enc Tryz.prog w 0 (fun _ => true) true 23 (.slice p1 n1 c1) d0 q0)
    (h1 : DataW.Trod enc Tryz.prog w 0 (fun _ => true) true 35 (.slice p2 n2 c2) d1 q1)
    (h2 : DataW.Trod enc Tryz.prog w 0 (fun _ => true) true 45 (.slice p3 n3 c3) d2 q2)
    (hB : Rows.uptoSmall H [d0, d1, d2] = true) :
    Calls Tryz.prog 4 #[.slice p1 n1 c1, .slice p2 n2 c2, .slice p3 n3 c3] w fun e w' => e = .returned (.bool true) ∧ Below w.heap.size w w' := by
  have hB' : uptoBulkAll [d0, d1, d2] ≤ 1048576 := by simpa [Rows.uptoSmall] using hB
  have g0 : uptoBulk d0 ≤ 1048576 := Nat.le_trans (bulk_all (l := [d0, d1, d2]) (by simp)) hB'
  have g1 : uptoBulk d1 ≤ 1048576 := Nat.le_trans (bulk_all (l := [d0, d1, d2]) (by simp)) hB'
  have g2 : uptoBulk d2 ≤ 1048576 := Nat.le_trans (bulk_all (l := [d0, d1, d2]) (by simp)) hB'
  obtain ⟨k0, f0⟩ := h0
  obtain ⟨k1, f1⟩ := h1
  obtain ⟨k2, f2⟩ := h2
  obtain ⟨L, hL, hda⟩ := open_bulk ecells (fun _ => rfl) (size := 4) (by omega) (fun e : En => e.da.size ≤ 1048576) Tryz.underlying23 size_api_Entry ent_bulk f0 g0
  obtain ⟨MS, hM, hMO⟩ := open_bulk mxc mxc_len (size := 14) (by omega) (fun z : Mg × Mx => MsgOk z.1 z.2 w ∧ z.1.en.length ≤ 1048576 ∧ z.2.nm ≤ 1048576 ∧ z.2.np ≤ 1048576) Tryz.underlying35 size_api_Msg msg_bulk f1 g1
  obtain ⟨FS, hF, _⟩ := open_bulk bcl (fun _ => rfl) (size := 1) (by omega) (fun _ => True) Tryz.underlying45 size_bool elem_bool f2 g2
  refine votes_walk p1 n1 c1 L p2 n2 c2 MS p3 n3 c3 FS w hL (ok_plain Tryz.underlying23 hv) (fun i hi => ?_) hM (fun i hi => ?_) (fun i hi => ?_) hF
  · have := hda _ (el_in (k := i) (by rw [hL.1]; exact hi)); omega
  · exact (hMO _ (el_in (k := i) (by rw [hM.1]; exact hi))).1
  · have := (hMO _ (el_in (k := i) (by rw [hM.1]; exact hi))).2; omega
end RF
end
end Go.Proofs.YtaodldagmmephaaGreat
