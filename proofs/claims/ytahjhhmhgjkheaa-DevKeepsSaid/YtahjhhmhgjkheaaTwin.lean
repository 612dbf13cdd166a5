/- dev: Twin makes another device that is the same. -/
import Derived.Test.YtahjhhmhgjkheaaDAlive
import Derived.Deep.RegionHeld3
import Derived.Deep.DrawnRows
namespace Go.Proofs.Ytahjhhmhgjkheaa
open Go.RowKit Go.Conc
attribute [local go_sem ↓] Go.wp_at_zero Go.wp_at_succ

theorem skeep {w : World} {p q : Addr} {u v : Value} (h : w.cell? q = some v) (hne : q.block ≠ p.block) : (w.setCell p u).cell? q = some v := (World.cell?_setCell_other _ _ _ _ (by rintro rfl; exact hne rfl)).trans h

/-- A write waits. -/
theorem dv_put {db base : Nat} {m lf : Int} {on fu : Bool} {sy nw : List ByteArray} {ws : List Wr} {F : Nat → Prop} {w : World} (x1 : Int) (x2 : ByteArray) (h : Dv db base m on fu lf sy nw ws F w) (hx : x2.size = 256 ∧ ∃ p : Nat, x1 = p ∧ p < sy.length) (hw : ws.length < 1000) :
    Calls Try.prog 27 #[.pointer (some ⟨db, 0, none⟩), .agg #[.int .i64 x1, .string x2]] w fun e w' => e = .returned (.tuple #[]) ∧ ∃ F', Dv db base m on fu lf sy nw (ws ++ [(x1, x2)]) F' w' ∧ Step F F' w w' := by
  obtain ⟨v4, v5, cv, hI, hok, hb, rfl⟩ := h
  refine (put_wait db cv x1 x2 ws w hI.c6 (hI.fz 6 (by omega)) hI.ch (by omega)).mono ?_
  intro e w' hp
  have he : e = .returned (.tuple #[]) := hp.1
  obtain ⟨c, hI', hfrom, hF⟩ := hI.waits hb hp
  refine ⟨he, _, ⟨v4, v5, _, hI', ⟨hok.len, hok.few, hok.s, hok.n, fun y hy => ?_, by simp; omega⟩, Nat.le_trans hb hF.size, rfl⟩, hF.mono (fun i _ hi => hi.elim (fun e => .inl e) (fun e => .inr (.inr (.inr e)))), ?_⟩
  · rcases List.mem_append.1 hy with hy | hy
    · exact hok.w y hy
    · obtain rfl : y = (x1, x2) := by simpa using hy
      exact hx
  · rintro i (hi | hi | hi | hi)
    · exact .inl (.inl hi)
    · exact .inl (.inr (.inl hi))
    · exact .inl (.inr (.inr (.inl hi)))
    · rcases hfrom with e9 | e9
      · exact .inl (.inr (.inr (.inr (e9.trans hi))))
      · injection hi with hi
        injection hi with hi
        subst hi
        exact .inr e9

theorem own_mono {w : World} {B B' n size : Nat} {e : TypeId} {v : Value} {xs : List Value} (h : w.ownsRow B e size v n xs) (hB : B' ≤ B) : w.ownsRow B' e size v n xs := by
  refine ⟨h.1, ?_⟩
  rcases h.2 with h | ⟨g, c, cur, e, hb, rest⟩
  · exact .inl h
  · exact .inr ⟨g, c, cur, e, by omega, rest⟩

theorem set_row {w : World} {b k : Nat} {cs : Array Value} {t : TypeId} {fz : Nat × Nat} {u : Value} (h : w.heap[b]? = some (.cells cs t fz)) : (w.setCell ⟨b, k, none⟩ u).heap[b]? = some (.cells (cs.setIfInBounds k u) t fz) := by
  rw [setCell_eq_setRow w b k cs t fz u h, setRow_heap w b cs _ t fz h]

/-- A device whose block is known whole. -/
theorem dev_of_row {w : World} {ob base : Nat} {m lf : Int} {on fu : Bool} {sy nw : List ByteArray} {u4 u5 : Value} (h : w.heap[ob]? = some (.cells #[.int .i64 m, .bool on, .bool fu, .int .i64 lf, u4, u5, .chan none] 47 (0, 0)))
    (h4 : w.ownsRow (ob + 1) 9 1 u4 sy.length (rowOf scells sy)) (h5 : w.ownsRow (ob + 1) 9 1 u5 nw.length (rowOf scells nw)) (h45 : ∀ g, u4.ownBlock = some g → u5.ownBlock ≠ some g) (hb : base ≤ ob) :
    DevI ob base m on fu lf sy nw [] u4 u5 (.chan none) w := by
  have cc : ∀ k v, (#[Value.int .i64 m, .bool on, .bool fu, .int .i64 lf, u4, u5, .chan none])[k]? = some v → w.cell? ⟨ob, k, none⟩ = some v := fun k v hv => by
    rw [cell_of_row _ _ _ _ _ _ h]; exact hv
  refine ⟨cc 0 _ rfl, cc 1 _ rfl, cc 2 _ rfl, cc 3 _ rfl, cc 4 _ rfl, cc 5 _ rfl, cc 6 _ rfl, fun k _ => ?_, own_mono h4 (by omega), own_mono h5 (by omega), fun e => ?_, fun e => ?_, h45, .inl ⟨rfl, rfl⟩, hb, fun c hc => (by cases hc)⟩
  · unfold World.frozen?
    rw [h]
    simp
  · have := (h4.lt ob e).1; omega
  · have := (h5.lt ob e).1; omega

/-- Between two rounds of Twin: i writes wait in both. -/
def TwinRel (db ob base : Nat) (m lf : Int) (on fu : Bool) (sy nw : List ByteArray) (ws : List Wr) (F : Nat → Prop) (v : Value) (w : World) (i : Nat) (wr : World) : Prop :=
  ∃ Fd Fo, Dv db base m on fu lf sy nw (ws.take i) Fd wr ∧ Dv ob ob m on fu lf sy nw (ws.take i) Fo wr ∧ (∀ k, Fo k → ¬ Fd k) ∧ Step F Fd w wr ∧ wr.ownsRow ob 52 2 v ws.length (rowOf wcells ws) ∧ (∀ g, v.ownBlock = some g → ¬ Fd g ∧ ¬ Fo g)

/-- One more write waits in both. -/
theorem TwinRel.next {db ob base : Nat} {m lf : Int} {on fu : Bool} {sy nw : List ByteArray} {ws : List Wr} {F Fd Fo Fd' Fo' : Nat → Prop} {v : Value} {w wr w1 w2 w3 : World} {i : Nat} (hi : i < ws.length) (hst : Step F Fd w wr) (hF1 : Fr (fun _ => False) wr w1) 
    (hd : Dv db base m on fu lf sy nw (ws.take i ++ [ws.getD i default]) Fd' w2) (hsd : Step Fd Fd' w1 w2) (ho : Dv ob ob m on fu lf sy nw (ws.take i ++ [ws.getD i default]) Fo' w3) (hso : Step Fo Fo' w2 w3)
    (hap : ∀ k, Fo k → ¬ Fd k) (hlo : ∀ k, Fo k → k < wr.heap.size) (hge : ∀ k, Fo k → ob ≤ k) (hwo : w.heap.size ≤ ob) (hown : wr.ownsRow ob 52 2 v ws.length (rowOf wcells ws)) (hv : ∀ g, v.ownBlock = some g → ¬ Fd g ∧ ¬ Fo g) :
    TwinRel db ob base m lf on fu sy nw ws F v w (i + 1) w3 := by
  have e : ws.take (i + 1) = ws.take i ++ [ws.getD i default] := by
    rw [List.take_add_one, List.getD_eq_getElem?_getD, List.getElem?_eq_getElem hi]
    rfl
  have hz1 := hF1.size
  have hz2 := hsd.1.size
  have hap2 : ∀ k, Fo k → ¬ Fd' k := fun k hk h => by
    rcases hsd.2 k h with h | h
    · exact hap k hk h
    · have := hlo k hk; omega
  refine ⟨Fd', Fo', ?_, ?_, ?_, ?_, ?_, ?_⟩
  · rw [e]; exact hd.keep hso.1 (fun k hk h => hap2 k h hk)
  · rw [e]; exact ho
  · intro k hk h
    rcases hso.2 k hk with h9 | h9
    · exact hap2 k h9 h
    · have := hd.lt k h; omega
  · have h1 : Step F Fd w w1 := hst.trans ⟨hF1.mono (fun _ _ h => h.elim), fun k h => .inl h⟩
    have h2 := h1.trans hsd
    exact ⟨Fr.trans h2.1 hso.1 (fun k hk hlt => by have := hge k hk; omega), h2.2⟩
  · exact hso.1.owns (hsd.1.owns (hF1.owns hown (fun _ _ h => h)) (fun g hg h => (hv g hg).1 h)) (fun g hg h => (hv g hg).2 h)
  · intro g hg
    have hl := (hown.lt g hg).2
    exact ⟨fun h => (hsd.2 g h).elim (hv g hg).1 (by omega), fun h => (hso.2 g h).elim (hv g hg).2 (by omega)⟩

set_option maxHeartbeats 4000000 in
set_option maxRecDepth 100000 in
theorem dv_twin {db base : Nat} {m lf : Int} {on fu : Bool} {sy nw : List ByteArray} {ws : List Wr} {F : Nat → Prop} {w : World} (h : Dv db base m on fu lf sy nw ws F w) :
    Calls Try.prog 22 #[.pointer (some ⟨db, 0, none⟩)] w fun e w' => ∃ ob F' G, e = .returned (.pointer (some ⟨ob, 0, none⟩)) ∧ Dv db base m on fu lf sy nw ws F' w' ∧ Step F F' w w' ∧ Dv ob w.heap.size m on fu lf sy nw ws G w' ∧ (∀ k, G k → ¬ F' k) := by
  obtain ⟨v4, v5, cv, hI, hok, hb, rfl⟩ := h
  obtain ⟨p4, d4, rfl⟩ := owns_slice hI.o4
  obtain ⟨p5, d5, rfl⟩ := owns_slice hI.o5
  obtain ⟨oc, rfl⟩ : ∃ oc, cv = .chan oc := by
    rcases hI.ch with ⟨e, _⟩ | ⟨c, _, _, _, e, _⟩
    · exact ⟨_, e⟩
    · exact ⟨_, e⟩
  have hc0 := hI.c0
  have hc1 := hI.c1
  have hc2 := hI.c2
  have hc3 := hI.c3
  have hc4 := hI.c4
  have hc5 := hI.c5
  have hc6 := hI.c6
  have hdl : db < w.heap.size := cell_lt hc0
  have HI := Lib.hid hI
  have HOK := Lib.hid hok
  clear hI hok
  go_enter Try.func22, Try.ntmps22
  obtain ⟨W, hW⟩ : ∃ W, w.alloc (.cells #[.int .i64 m, .bool on, .bool fu, .int .i64 lf, .slice p4 sy.length d4, .slice p5 nw.length d5, .chan oc] 47) = W := ⟨_, rfl⟩
  have HW := Lib.hid hW
  have hFW : Fr (fun _ => False) w W := by rw [← hW]; exact (Fr.refl _ w).alloc _
  have hn : W.heap[w.heap.size]? = some (.cells #[.int .i64 m, .bool on, .bool fu, .int .i64 lf, .slice p4 sy.length d4, .slice p5 nw.length d5, .chan oc] 47 (0, 0)) := by rw [← hW]; exact heap_alloc_new w _
  have hIW := HI.out.keep hFW (fun _ _ h => h)
  have s4 := hIW.c4
  have s5 := hIW.c5
  have t4 : W.cell? ⟨w.heap.size, 4, none⟩ = some (.slice p4 sy.length d4) := by rw [cell_of_row _ _ _ _ _ _ hn]; rfl
  have t5 : W.cell? ⟨w.heap.size, 5, none⟩ = some (.slice p5 nw.length d5) := by rw [cell_of_row _ _ _ _ _ _ hn]; rfl
  have f4 : W.frozen? ⟨w.heap.size, 4, none⟩ = false := by unfold World.frozen?; rw [hn]; simp
  have f5 : W.frozen? ⟨w.heap.size, 5, none⟩ = false := by unfold World.frozen?; rw [hn]; simp
  have o4 := hIW.o4
  have o5 := hIW.o5
  have HN := Lib.hid hn
  have HIW := Lib.hid hIW
  have HFW := Lib.hid hFW
  have HCL : Hid (∀ (v : Value) (zs : List ByteArray) (W : World), W.ownsRow base 9 1 v zs.length (rowOf scells zs) → zs.length ≤ 3000 → Calls Try.prog 29 #[v] W fun e w' => ∃ v', e = .returned v' ∧ w'.ownsRow W.heap.size 9 1 v' zs.length (rowOf scells zs) ∧ Below W.heap.size W w') := Lib.hid (fun v zs W ho hl => clone_strs base v zs W ho (by omega))
  clear hW hn hIW hFW
  go_wp2_with fail
  rw [HW.out]
  have hne : (⟨db, 4, none⟩ : Addr).block ≠ (⟨w.heap.size, 4, none⟩ : Addr).block := by show db ≠ w.heap.size; omega
  have HLS : Hid (sy.length ≤ 3000) := HOK.out.few
  have HLN : Hid (nw.length ≤ 3000) := by have h1 := HOK.out.few; have h2 := HOK.out.len; exact (by omega : nw.length ≤ 3000)
  clear hc0 hc1 hc2 hc3 hc4 hc5 hc6
  go_region_held3 (fun w' => w'.cell? ⟨db, 4, none⟩ = some (.slice p4 sy.length d4) ∧ w'.cell? ⟨db, 5, none⟩ = some (.slice p5 nw.length d5))
    (first | go_keep | (go_split_ands; refine ⟨?_, ?_⟩ <;> (first | exact bkeep hb6 (by assumption) | exact bkeep hb5 (by assumption) | exact skeep (by assumption) hne)))
    (first
      | (go_at_call 29; have hx := HCL.out (.slice p4 sy.length d4) sy W.drew o4 HLS.out; refine hx.mono ?_; rintro e w5 ⟨u4, rfl, ho5, hb5⟩; have hF5 : Fr (fun _ => False) W w5 := Fr.trans ((Fr.refl (fun _ => False) W).drew) (Fr.of_all (S := fun _ => False) hb5) (fun _ h _ => h); have o55 := HIW.out.keep hF5 (fun _ _ h => h); have t45 : w5.cell? ⟨w.heap.size, 4, none⟩ = some (.slice p4 sy.length d4) := bkeep hb5 t4; have f45 : w5.frozen? ⟨w.heap.size, 4, none⟩ = false := (bkeepF hb5 t4).trans f4; have t55 : w5.cell? ⟨w.heap.size, 5, none⟩ = some (.slice p5 nw.length d5) := bkeep hb5 t5; have f55 : w5.frozen? ⟨w.heap.size, 5, none⟩ = false := (bkeepF hb5 t5).trans f5)
      | (go_at_call 29; have hx := HCL.out (.slice p5 nw.length d5) nw w5 o55.o5 HLN.out; refine hx.mono ?_; rintro e w6 ⟨u5, rfl, ho6, hb6⟩; obtain ⟨q5, e5, rfl⟩ := owns_slice ho6; obtain ⟨q4, e4, rfl⟩ := owns_slice ho5; have t46 : w6.cell? ⟨w.heap.size, 4, none⟩ = some (.slice p4 sy.length d4) := bkeep hb6 t45; have f46 : w6.frozen? ⟨w.heap.size, 4, none⟩ = false := (bkeepF hb6 t45).trans f45; have t56 : w6.cell? ⟨w.heap.size, 5, none⟩ = some (.slice p5 nw.length d5) := bkeep hb6 t55; have f56 : w6.frozen? ⟨w.heap.size, 5, none⟩ = false := (bkeepF hb6 t55).trans f55))
  have HFU : Hid (Fr (fun k => k = w.heap.size) w (((w6.setCell ⟨w.heap.size, 4, none⟩ (.slice q4 sy.length e4)).setCell ⟨w.heap.size, 5, none⟩ (.slice q5 nw.length e5)).setCell ⟨w.heap.size, 6, none⟩ (.chan none))) := Lib.hid (by
    have h1 : Fr (fun _ => False) w w6 := Fr.trans (Fr.trans HFW.out hF5 (fun _ h _ => h)) (Fr.of_all (S := fun _ => False) hb6) (fun _ h _ => h)
    have h2 : Fr (fun k => k = w.heap.size) w w6 := h1.mono (fun _ _ h => h.elim)
    exact ((h2.setCell (p := ⟨w.heap.size, 4, none⟩) (fun _ => rfl) _).setCell (p := ⟨w.heap.size, 5, none⟩) (fun _ => rfl) _).setCell (p := ⟨w.heap.size, 6, none⟩) (fun _ => rfl) _)
  have hn6 : w6.heap[w.heap.size]? = some (.cells #[.int .i64 m, .bool on, .bool fu, .int .i64 lf, .slice p4 sy.length d4, .slice p5 nw.length d5, .chan oc] 47 (0, 0)) := by
    have hlt : w.heap.size < W.heap.size := (Array.getElem?_eq_some_iff.1 HN.out).1
    have h5 : w5.heap[w.heap.size]? = W.heap[w.heap.size]? := hF5.block _ hlt (fun h => h)
    rw [hb6.block _ (Nat.lt_of_lt_of_le hlt hF5.size), h5, HN.out]
  have hrow : (((w6.setCell ⟨w.heap.size, 4, none⟩ (.slice q4 sy.length e4)).setCell ⟨w.heap.size, 5, none⟩ (.slice q5 nw.length e5)).setCell ⟨w.heap.size, 6, none⟩ (.chan none)).heap[w.heap.size]? = some (.cells #[.int .i64 m, .bool on, .bool fu, .int .i64 lf, .slice q4 sy.length e4, .slice q5 nw.length e5, .chan none] 47 (0, 0)) := set_row (set_row (set_row hn6))
  have hF6 : Fr (fun k => k = w.heap.size) w6 (((w6.setCell ⟨w.heap.size, 4, none⟩ (.slice q4 sy.length e4)).setCell ⟨w.heap.size, 5, none⟩ (.slice q5 nw.length e5)).setCell ⟨w.heap.size, 6, none⟩ (.chan none)) := (((Fr.refl (fun k => k = w.heap.size) w6).setCell (p := ⟨w.heap.size, 4, none⟩) (fun _ => rfl) _).setCell (p := ⟨w.heap.size, 5, none⟩) (fun _ => rfl) _).setCell (p := ⟨w.heap.size, 6, none⟩) (fun _ => rfl) _
  have hWs : W.heap.size = w.heap.size + 1 := by rw [← HW.out]; simp
  have hg4 : ∀ g, (Value.slice q4 sy.length e4).ownBlock = some g → w.heap.size + 1 ≤ g ∧ g < w5.heap.size := fun g hg => by have := ho5.lt g hg; rw [← hWs]; exact this
  have hg5 : ∀ g, (Value.slice q5 nw.length e5).ownBlock = some g → w5.heap.size ≤ g := fun g hg => (ho6.lt g hg).1
  have hO4 := hF6.owns (own_mono ((Fr.of_all (S := fun _ => False) hb6).owns ho5 (fun _ _ h => h)) (B' := w.heap.size + 1) (by rw [← hWs]; exact Nat.le_refl _)) (fun g hg h => by have := hg4 g hg; omega)
  have hO5 := hF6.owns (own_mono ho6 (B' := w.heap.size + 1) (by have := hF5.size; omega)) (fun g hg h => by have := hg5 g hg; have := hF5.size; omega)
  have hDO := dev_of_row (base := w.heap.size) hrow hO4 hO5 (fun g h1 h2 => by have := hg4 g h1; have := hg5 g h2; omega) (Nat.le_refl _)
  have hDD := HI.out.keep HFU.out (fun k hk h => by have := HI.out.lt k hk; omega)
  have f66 : ((w6.setCell ⟨w.heap.size, 4, none⟩ (.slice q4 sy.length e4)).setCell ⟨w.heap.size, 5, none⟩ (.slice q5 nw.length e5)).frozen? ⟨w.heap.size, 6, none⟩ = false := by unfold World.frozen?; rw [set_row (set_row hn6)]; simp
  have t66 : ((w6.setCell ⟨w.heap.size, 4, none⟩ (.slice q4 sy.length e4)).setCell ⟨w.heap.size, 5, none⟩ (.slice q5 nw.length e5)).cell? ⟨w.heap.size, 6, none⟩ = some (.chan oc) := by rw [cell_of_row _ _ _ _ _ _ (set_row (set_row hn6))]; rfl
  have HDO := Lib.hid hDO
  have HDD := Lib.hid hDD
  have HG4 := Lib.hid hg4
  have HG5 := Lib.hid hg5
  have HS5 := Lib.hid hF5.size
  clear hDO hDD hO4 hO5 hg4 hg5 hrow hF6 hF5 hn6 hWs ho5 ho6 hb5 hb6 o55 o4 o5 t4 t5 f4 f5 t45 t55 f45 f55 s4 s5
  have HDR := Lib.hid (drain_any db (.chan oc) ws _ HDD.out.c6 HDD.out.ch (by have := HOK.out.wl; omega))
  go_wp2_with fail
  refine HDR.out.mono ?_
  rintro e w7 ⟨v7, rfl, ho7, hF7, hch7⟩
  obtain ⟨p7, c7, rfl⟩ := owns_slice ho7
  have hz9 := HFU.out.size
  have hFoge : ∀ k, devF w.heap.size (.slice q4 sy.length e4) (.slice q5 nw.length e5) (.chan none) k → w.heap.size ≤ k := HDO.out.ge
  have hFdlt : ∀ k, devF db (.slice p4 sy.length d4) (.slice p5 nw.length d5) (.chan oc) k → k < w.heap.size := HI.out.lt
  have HST : Hid (TwinRel db w.heap.size base m lf on fu sy nw ws (devF db (.slice p4 sy.length d4) (.slice p5 nw.length d5) (.chan oc)) (.slice p7 ws.length c7) w 0 w7) := Lib.hid (by
    have hok0 : DevOK sy nw [] := ⟨HOK.out.len, HOK.out.few, HOK.out.s, HOK.out.n, by simp, by simp⟩
    refine ⟨_, _, ⟨_, _, _, HDD.out.drained hF7 hch7, hok0, Nat.le_trans (Nat.le_trans hb hz9) hF7.size, rfl⟩, ⟨_, _, _, HDO.out.keep hF7 (fun k hk h => ?_), hok0, Nat.le_trans hz9 hF7.size, rfl⟩, fun k hk h => ?_, ⟨Fr.trans (HFU.out.mono (fun k hlt hk => by have : k = w.heap.size := hk; omega)) hF7 (fun k hk _ => .inr (.inr (.inr hk))), fun k hk => .inl hk⟩, own_mono ho7 hz9, fun g hg => ⟨fun h => ?_, fun h => ?_⟩⟩
    · have h1 := hFoge k hk
      have h2 := hFdlt k (.inr (.inr (.inr h)))
      omega
    · have h1 := hFoge k hk
      have h2 := hFdlt k h
      omega
    · have h1 := (ho7.lt g hg).1
      have h2 := hFdlt g h
      omega
    · have h1 := (ho7.lt g hg).1
      have h2 := HDO.out.lt g h
      omega)
  clear ho7 hF7 hch7 hFoge hFdlt HDR HDO HDD HFU f66 t66 HG4 HG5 HS5
  go_wp2
  go_loopw [27] (fun iv wr => ∃ i : Nat, i ≤ ws.length ∧ iv = .int .i64 i ∧ TwinRel db w.heap.size base m lf on fu sy nw ws (devF db (.slice p4 sy.length d4) (.slice p5 nw.length d5) (.chan oc)) (.slice p7 ws.length c7) w i wr) (fun iv _ => ws.length - (intOf iv).toNat)
  case atStart => exact ⟨0, by omega, rfl, HST.out⟩
  case round =>
    clear HST
    obtain ⟨i, hi, rfl, Fd, Fo, hd, ho, hap, hst, hown, hv⟩ := hrel
    have hwl := HOK.out.wl
    by_cases hlt : i < ws.length
    · obtain ⟨g7, cp7, hv7, hb7, hl7, _⟩ := owns_len hown (by omega)
      injection hv7 with e1 _ e2
      subst e1 e2
      have hx0 := hown.cells (g := g7) rfl _ _ (rowOf_at wcells wcells_length ws i 0 hlt (by omega))
      have hx1 := hown.cells (g := g7) rfl _ _ (rowOf_at wcells wcells_length ws i 1 hlt (by omega))
      rw [add_at0] at hx0 hx1
      have hxm := HOK.out.w _ (getD_mem (l := ws) (n := i) hlt)
      have HLO := Lib.hid ho.lt
      have HGE := Lib.hid ho.ge
      have HSTP := Lib.hid hst
      have HOWN := Lib.hid hown
      have HV := Lib.hid hv
      generalize hxx : ws.getD i default = xi at hx0 hx1 hxm
      obtain ⟨x1, x2⟩ := xi
      rw [Nat.add_zero] at hx0
      have HXX := Lib.hid hxx
      have HXM := Lib.hid hxm
      have HD := Lib.hid hd
      have HO := Lib.hid ho
      have HAP := Lib.hid hap
      have hwz := hst.1.size
      clear hxx hd ho hap hst hown hv hxm
      have hF1 : Fr (fun _ => False) wr (wr.alloc (.cells #[.int .i64 x1, .string x2] 52)) := (Fr.refl _ wr).alloc _
      have hb0 := (show (wr.alloc (.cells #[.int .i64 x1, .string x2] 52)).cell? ⟨wr.heap.size, 0, none⟩ = some (.int .i64 x1) by have e := new_cells wr [.int .i64 x1, .string x2] 52 0 _ rfl; rw [add_at0] at e; exact e)
      have hb1 := (show (wr.alloc (.cells #[.int .i64 x1, .string x2] 52)).cell? ⟨wr.heap.size, 1, none⟩ = some (.string x2) by have e := new_cells wr [.int .i64 x1, .string x2] 52 1 _ rfl; rw [add_at0] at e; exact e)
      have HP := Lib.hid (dv_put x1 x2 (HD.out.keep hF1 (fun _ _ h => h)) HXM.out (by rw [List.length_take]; omega))
      have HF1 := Lib.hid hF1
      have HB0 := Lib.hid hb0
      have HB1 := Lib.hid hb1
      clear hF1 hb0 hb1
      have hb0 := HB0.out
      have hb1 := HB1.out
      go_wp2_with fail
      refine HP.out.mono ?_
      rintro e w8 ⟨rfl, Fd', hd8, hsd⟩
      have hF8 : Fr Fd wr w8 := Fr.trans (HF1.out.mono (fun _ _ h => h.elim)) hsd.1 (fun _ h _ => h)
      have HP2 := Lib.hid (dv_put x1 x2 (HO.out.keep hF8 HAP.out) HXM.out (by rw [List.length_take]; omega))
      have hlt1 : wr.heap.size < (wr.alloc (.cells #[.int .i64 x1, .string x2] 52)).heap.size := by simp
      have hnd : ¬ Fd wr.heap.size := fun h => Nat.lt_irrefl _ (HD.out.lt _ h)
      have hb08 := (hsd.1.cell (p := ⟨wr.heap.size, 0, none⟩) hlt1 hnd).trans HB0.out
      have hb18 := (hsd.1.cell (p := ⟨wr.heap.size, 1, none⟩) hlt1 hnd).trans HB1.out
      have HD8 := Lib.hid hd8
      have HSD := Lib.hid hsd
      clear hd8 hsd hF8 hlt1 hnd HP hb0 hb1 HB0 HB1
      go_wp2_with fail
      refine HP2.out.mono ?_
      rintro e w9 ⟨rfl, Fo', ho9, hso⟩
      have HNX : Hid (TwinRel db w.heap.size base m lf on fu sy nw ws (devF db (.slice p4 sy.length d4) (.slice p5 nw.length d5) (.chan oc)) (.slice (some ⟨g7, 0, none⟩) ws.length c7) w (i + 1) w9) := Lib.hid (TwinRel.next hlt HSTP.out HF1.out (by rw [HXX.out]; exact HD8.out) HSD.out (by rw [HXX.out]; exact ho9) hso HAP.out HLO.out HGE.out (Nat.le_refl _) HOWN.out HV.out)
      clear ho9 hso HP2 hb08 hb18
      go_wp2
      go_roundw
      case rel => exact ⟨i + 1, by omega, by go_num, HNX.out⟩
      case measure => simp [intOf]; omega
    · obtain rfl : i = ws.length := by omega
      rw [List.take_length] at hd ho
      have HD := Lib.hid hd
      have HO := Lib.hid ho
      have HAP := Lib.hid hap
      have HSTP := Lib.hid hst
      clear hd ho hap hst hown hv
      go_wp2
      go_ret
      exact ⟨_, Fd, Fo, rfl, HD.out, HSTP.out, HO.out, HAP.out⟩
end Go.Proofs.Ytahjhhmhgjkheaa
