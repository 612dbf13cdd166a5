/- arboretumlaw3.PileJoins returns true, whatever its arguments. -/
import Derived.Test.YtllmdhkeapabjaaAlive
import Derived.Test.YtllmdhkeapabjaaSorted
import Derived.Test.YtllmdhkeapabjaaSame
import Derived.Test.YtllmdhkeapabjaaAppR
namespace Go.Proofs.Ytllmdhkeapabjaa
open Go.RowKit

theorem PileI.ge2 {pb base : Nat} {v : Value} {l : List Int} {w : World} (h : PileI pb base v l w) (hb : base ≤ pb) : ∀ k, pileF pb v k → base ≤ k := by
  rintro k (rfl | hk)
  · exact hb
  · exact (h.1.2.2.1.lt k hk).1

theorem PileI.base {pb base base' : Nat} {v : Value} {l : List Int} {w : World} (h : PileI pb base v l w) (hb : base' ≤ base) : PileI pb base' v l w := by
  obtain ⟨⟨h1, h2, h3, h4, h5, h6⟩, h7⟩ := h
  refine ⟨⟨h1, h2, ⟨h3.1, ?_⟩, h4, h5, by omega⟩, h7⟩
  rcases h3.2 with e | ⟨g, c, cur, e, hbase, rest⟩
  · exact .inl e
  · exact .inr ⟨g, c, cur, e, by omega, rest⟩

def Apart (pb : Nat) (v : Value) (pb' : Nat) (v' : Value) : Prop := ∀ k, pileF pb v k → ¬ pileF pb' v' k
theorem Apart.symm {pb pb' : Nat} {v v' : Value} (h : Apart pb v pb' v') : Apart pb' v' pb v := fun k h1 h2 => h k h2 h1
theorem Apart.step {pb pb' H : Nat} {v v' u : Value} (h : Apart pb v pb' u) (hL : ∀ g, v'.ownBlock = some g → Lies v g H) (hlt : ∀ k, pileF pb' u k → k < H) : Apart pb v' pb' u := by
  rintro k (rfl | hk) h2
  · exact h k (.inl rfl) h2
  · rcases hL k hk with e | e
    · exact h k (.inr e) h2
    · have := hlt k h2; omega

/-- Three piles, apart. -/
def S3 (w : World) (p q r : Nat) (lp lq lr : List Int) (wr : World) : Prop :=
  ∃ vp vq vr mp mq mr, PileI p w.heap.size vp mp wr ∧ mp.Perm lp ∧ PileI q w.heap.size vq mq wr ∧ mq.Perm lq ∧ PileI r w.heap.size vr mr wr ∧ mr.Perm lr ∧
    Apart p vp q vq ∧ Apart p vp r vr ∧ Apart q vq r vr ∧ w.heap.size ≤ p ∧ w.heap.size ≤ q ∧ w.heap.size ≤ r ∧ Below w.heap.size w wr

theorem S3.bel {w wr : World} {p q r : Nat} {lp lq lr : List Int} (h : S3 w p q r lp lq lr wr) : Below w.heap.size w wr := by
  obtain ⟨vp, vq, vr, mp, mq, mr, hp, pp, hq, pq, hr, pr, a1, a2, a3, g1, g2, g3, hb⟩ := h
  exact hb

theorem S3.later {w wr w' : World} {p q r : Nat} {lp lq lr : List Int} (h : S3 w p q r lp lq lr wr) (hl : Below wr.heap.size wr w') : S3 w p q r lp lq lr w' := by
  obtain ⟨vp, vq, vr, mp, mq, mr, hp, pp, hq, pq, hr, pr, a1, a2, a3, g1, g2, g3, hb⟩ := h
  exact ⟨vp, vq, vr, mp, mq, mr, hp.keep (Fr.of_all (S := fun _ => False) hl) (fun _ _ h => h), pp, hq.keep (Fr.of_all (S := fun _ => False) hl) (fun _ _ h => h), pq, hr.keep (Fr.of_all (S := fun _ => False) hl) (fun _ _ h => h), pr, a1, a2, a3, g1, g2, g3, hb.trans (hl.mono hb.size)⟩

theorem S3.list {w wr : World} {p q r : Nat} {lp lq lr : List Int} (h : S3 w p q r lp lq lr wr) (k : Nat) (l : List Int) (N : Nat) (hN : l.length = N) (hk : (k = p ∧ l = lp) ∨ (k = q ∧ l = lq) ∨ (k = r ∧ l = lr)) :
    Calls Try.prog 21 #[.pointer (some ⟨k, 0, none⟩)] wr fun e w' => ∃ u c, e = .returned (.slice u N c) ∧ RdI w' w'.heap.size u N (CL.srt l) ∧ Below wr.heap.size wr w' := by
  obtain ⟨vp, vq, vr, mp, mq, mr, hp, pp, hq, pq, hr, pr, a1, a2, a3, g1, g2, g3, hb⟩ := h
  have key : ∀ (v : Value) (mm : List Int), PileI k w.heap.size v mm wr → mm.Perm l → Calls Try.prog 21 #[.pointer (some ⟨k, 0, none⟩)] wr fun e w' => ∃ u c, e = .returned (.slice u N c) ∧ RdI w' w'.heap.size u N (CL.srt l) ∧ Below wr.heap.size wr w' := by
    intro v mm hP hpm
    refine (pile_list k _ v mm wr hP).mono ?_
    rintro e w' ⟨u, rfl, ho, hb'⟩
    obtain ⟨q, c, rfl⟩ := owns_slice ho
    rw [CL.srt_of_perm hpm] at ho
    rw [hpm.length_eq, hN] at ho ⊢
    exact ⟨q, c, rfl, RdI.of_own ho (by rw [CL.srt_length, hN]), hb'⟩
  rcases hk with ⟨rfl, rfl⟩ | ⟨rfl, rfl⟩ | ⟨rfl, rfl⟩
  · exact key vp mp hp pp
  · exact key vq mq hq pq
  · exact key vr mr hr pr

theorem S3.len {w wr : World} {p q r : Nat} {lp lq lr : List Int} (h : S3 w p q r lp lq lr wr) (N : Nat) (hN : lp.length = N) :
    Calls Try.prog 19 #[.pointer (some ⟨p, 0, none⟩)] wr fun e w' => e = .returned (.int .i64 N) ∧ wr = w' := by
  obtain ⟨vp, vq, vr, mp, mq, mr, hp, pp, hq, pq, hr, pr, a1, a2, a3, g1, g2, g3, hb⟩ := h
  have := pile_len p _ vp mp wr hp
  rw [pp.length_eq, hN] at this
  exact this

theorem S3.put1 {w wr : World} {p q r : Nat} {lp lq lr zs : List Int} {s : Option Addr} {n c : Nat} (h : S3 w p q r lp lq lr wr) (hz : RdI wr w.heap.size s n zs) (hn : lp.length + n < 1000000) :
    Calls Try.prog 17 #[.pointer (some ⟨p, 0, none⟩), .slice s n c] wr fun e w' => e = .returned (.tuple #[]) ∧ S3 w p q r (lp ++ zs) lq lr w' := by
  obtain ⟨vp, vq, vr, mp, mq, mr, hp, pp, hq, pq, hr, pr, a1, a2, a3, g1, g2, g3, hb⟩ := h
  refine (pile_put p w.heap.size vp mp zs s n c wr hp (hz.more hb.size) (fun b o e h0 hs => ?_) (by rw [pp.length_eq]; exact hn)).mono ?_
  · obtain ⟨b', o', e', hlt, _⟩ := hz.2 h0
    rw [e] at e'
    injection e' with e'
    injection e' with e' _
    have := hp.ge2 g1 b hs
    omega
  · rintro e w2 ⟨he, v2, l2, hP2, hp2, hF2, hL2⟩
    refine ⟨he, v2, vq, vr, l2, mq, mr, hP2, hp2.trans (pp.append_right zs), hq.keep hF2 (fun k hk h2 => a1 k h2 hk), pq, hr.keep hF2 (fun k hk h2 => a2 k h2 hk), pr, a1.step hL2 hq.lt, a2.step hL2 hr.lt, a3, g1, g2, g3, hb.trans (hF2.below hb.size (hp.ge2 g1))⟩

theorem S3.put2 {w wr : World} {p q r : Nat} {lp lq lr zs : List Int} {s : Option Addr} {n c B : Nat} (h : S3 w p q r lp lq lr wr) (hz : RdI wr B s n zs) (hB : B ≤ wr.heap.size) (hn : lq.length + n < 1000000)
    (hs : ∀ b o, s = some ⟨b, o, none⟩ → 0 < n → b < w.heap.size) :
    Calls Try.prog 17 #[.pointer (some ⟨q, 0, none⟩), .slice s n c] wr fun e w' => e = .returned (.tuple #[]) ∧ S3 w p q r lp (lq ++ zs) lr w' := by
  obtain ⟨vp, vq, vr, mp, mq, mr, hp, pp, hq, pq, hr, pr, a1, a2, a3, g1, g2, g3, hb⟩ := h
  refine (pile_put q w.heap.size vq mq zs s n c wr hq (hz.more hB) (fun b o e h0 hs' => ?_) (by rw [pq.length_eq]; exact hn)).mono ?_
  · have h1 := hs b o e h0
    have := hq.ge2 g2 b hs'
    omega
  · rintro e w2 ⟨he, v2, l2, hP2, hp2, hF2, hL2⟩
    refine ⟨he, vp, v2, vr, mp, l2, mr, hp.keep hF2 (fun k hk h2 => a1 k hk h2), pp, hP2, hp2.trans (pq.append_right zs), hr.keep hF2 (fun k hk h2 => a3 k h2 hk), pr, (a1.symm.step hL2 hp.lt).symm, a2, a3.step hL2 hr.lt, g1, g2, g3, hb.trans (hF2.below hb.size (hq.ge2 g2))⟩

/-- .. with a row of one number, laid just ahead of the call. -/
theorem S3.put2new {w wr : World} {p q r : Nat} {lp lq lr : List Int} {x : Int} (h : S3 w p q r lp lq lr wr) (hn : lq.length + 1 < 1000000) :
    Calls Try.prog 17 #[.pointer (some ⟨q, 0, none⟩), .slice (some ⟨wr.heap.size, 0, none⟩) 1 1] (wr.alloc (.cells #[.int .i64 x] 3)) fun e w' => e = .returned (.tuple #[]) ∧ S3 w p q r lp (lq ++ [x]) lr w' := by
  obtain ⟨vp, vq, vr, mp, mq, mr, hp, pp, hq, pq, hr, pr, a1, a2, a3, g1, g2, g3, hb⟩ := h
  have hF0 := (Fr.refl (fun _ => False) wr).alloc (.cells #[.int .i64 x] 3)
  have hp1 := hp.keep hF0 (fun _ _ h => h)
  have hq1 := hq.keep hF0 (fun _ _ h => h)
  have hr1 := hr.keep hF0 (fun _ _ h => h)
  have hrd : RdI (wr.alloc (.cells #[.int .i64 x] 3)) (wr.alloc (.cells #[.int .i64 x] 3)).heap.size (some ⟨wr.heap.size, 0, none⟩) 1 [x] := rd_new wr [x] 3
  have hqlt := hq.lt
  refine (pile_put q w.heap.size vq mq [x] _ 1 1 _ hq1 hrd (fun b o e h0 hs' => ?_) (by rw [pq.length_eq]; exact hn)).mono ?_
  · injection e with e
    injection e with e _
    have := hqlt _ hs'
    omega
  · rintro e w2 ⟨he, v2, l2, hP2, hp2, hF2, hL2⟩
    refine ⟨he, vp, v2, vr, mp, l2, mr, hp1.keep hF2 (fun k hk h2 => a1 k hk h2), pp, hP2, hp2.trans (pq.append_right [x]), hr1.keep hF2 (fun k hk h2 => a3 k h2 hk), pr, (a1.symm.step hL2 hp1.lt).symm, a2, a3.step hL2 hr1.lt, g1, g2, g3, (hb.alloc hb.size _).trans (hF2.below (by have := hb.size; simp; omega) (hq.ge2 g2))⟩

set_option maxHeartbeats 2000000 in
set_option maxRecDepth 100000 in
theorem pileJoins_walk (p q : Option Addr) (n c m d : Nat) (zs ds : List Int) (w : World) (h : RdI w w.heap.size p n zs) (hd : RdI w w.heap.size q m ds) (hc0 : p = none → c = 0) (hd0 : q = none → d = 0) :
    Calls Try.prog 6 #[.slice p n c, .slice q m d] w fun e w' => e = .returned (.bool true) ∧ Below w.heap.size w w' := by
  by_cases hn : 60 < n ∨ 60 < m
  · clear h hd hc0 hd0
    rcases Nat.lt_or_ge 60 n with h1 | h1
    · go_enter Try.func6, Try.ntmps6
      go_wp2_with (go_at_call 8; refine (alive_true _).mono ?_; rintro e w' ⟨rfl, hb⟩)
      go_ret
      exact ⟨rfl, hb⟩
    · have h2 : 60 < m := by omega
      clear hn
      go_enter Try.func6, Try.ntmps6
      go_wp2_with (go_at_call 8; refine (alive_true _).mono ?_; rintro e w' ⟨rfl, hb⟩)
      go_ret
      exact ⟨rfl, hb⟩
  · have hn' : n ≤ 60 := by omega
    have hm' : m ≤ 60 := by omega
    clear hn
    have HZ := Lib.hid h
    have HD := Lib.hid hd
    have HC0 := Lib.hid hc0
    have HD0 := Lib.hid hd0
    clear h hd hc0 hd0
    go_enter Try.func6, Try.ntmps6
    go_wp2_with fail
    refine (pile_new p n c zs w HZ.out (by omega)).mono ?_
    rintro e w1 ⟨pb, vp, lp, rfl, hpb, hP, hpp, hb1⟩
    have HP := Lib.hid hP
    have HPP := Lib.hid hpp
    have HB1 := Lib.hid hb1
    clear hP hpp hb1
    go_wp2_with fail
    refine (pile_new none 0 0 [] w1 ⟨rfl, fun h => by omega⟩ (by omega)).mono ?_
    rintro e w2 ⟨qb, vq, lq, rfl, hqb, hQ, hpq, hb2⟩
    have HQ := Lib.hid hQ
    have HPQ := Lib.hid hpq
    have HB2 := Lib.hid hb2
    clear hQ hpq hb2
    have hBw2 : Below w.heap.size w w2 := HB1.out.trans (HB2.out.mono HB1.out.size)
    have HBW2 := Lib.hid hBw2
    clear hBw2
    go_wp2_with (first
      | (at_builtin; refine append_rd rfl _ _ rfl w2.heap.size (.slice none 0 0) 0 [] rfl (World.ownsRow_nil _ _ _ _) q m d ds rfl ((HD.out.below HBW2.out).more HBW2.out.size) HD0.out (by omega) (Nat.le_refl _) ?_; intro v3 w3 hown3 hgr3
         rw [Nat.zero_add, List.nil_append] at hown3
         obtain ⟨p3, c3, rfl⟩ := owns_slice hown3
         have HO3 := Lib.hid hown3
         have HB3 := Lib.hid ((Below.refl w2.heap.size w2).grown hgr3 (Nat.le_refl _) (fun k hk => by cases hk))
         clear hown3 hgr3)
      | (at_builtin; refine append_rd rfl _ _ rfl w2.heap.size (.slice p3 m c3) m (rowOf ncells ds) rfl HO3.out p n c zs rfl ((HZ.out.below (HBW2.out.trans (HB3.out.mono HBW2.out.size))).more (Nat.le_trans HBW2.out.size HB3.out.size)) HC0.out (by omega) HB3.out.size ?_; intro v4 w4 hown4 hgr4
         obtain ⟨p4, c4, rfl⟩ := owns_slice hown4
         have HO4 := Lib.hid hown4
         have HB4 := Lib.hid (HB3.out.grown hgr4 HB3.out.size (fun k hk => (HO3.out.lt k hk).1))
         clear hown4 hgr4))
    have hB4 : Below w.heap.size w w4 := HBW2.out.trans (HB4.out.mono HBW2.out.size)
    have HB4W := Lib.hid hB4
    have HR4 : Hid (RdI w4 w4.heap.size p4 (m + n) (ds ++ zs)) := RdI.of_own (by rw [rowOf_append]; exact HO4.out) (by rw [List.length_append, HD.out.1, HZ.out.1])
    clear hB4
    refine (pile_new p4 (m + n) c4 (ds ++ zs) w4 HR4.out (by omega)).mono ?_
    rintro e w5 ⟨rb, vr, lr, rfl, hrb, hR, hpr, hb5⟩
    have HS : Hid (S3 w pb qb rb zs [] (ds ++ zs) w5) := by
      have hPlt := HP.out.lt
      have hQlt := HQ.out.lt
      have hQge := HQ.out.ge2 hqb
      have hRge := hR.ge2 hrb
      have s1 := HB1.out.size
      have s2 := HB2.out.size
      have s4 := HB4.out.size
      have hP2 := HP.out.keep (Fr.of_all (S := fun _ => False) HB2.out) (fun _ _ h => h)
      have hP4 := hP2.keep (Fr.of_all (S := fun _ => False) HB4.out) (fun _ _ h => h)
      have hP5 := hP4.keep (Fr.of_all (S := fun _ => False) hb5) (fun _ _ h => h)
      have hQ4 := HQ.out.keep (Fr.of_all (S := fun _ => False) HB4.out) (fun _ _ h => h)
      have hQ5 := hQ4.keep (Fr.of_all (S := fun _ => False) hb5) (fun _ _ h => h)
      refine ⟨vp, vq, vr, lp, lq, lr, hP5, HPP.out, hQ5.base s1, HPQ.out, hR.base (by omega), hpr, ?_, ?_, ?_, hpb, by omega, by omega, HB4W.out.trans (hb5.mono (by omega))⟩
      · intro k h1 h2; have := hPlt k h1; have := hQge k h2; omega
      · intro k h1 h2; have := hPlt k h1; have := hRge k h2; omega
      · intro k h1 h2; have := hQlt k h1; have := hRge k h2; omega
    clear hR hpr hb5 HR4 HB4W HO4 HB4 HO3 HB3 HBW2 HB2 HPQ HQ HB1 HPP HP
    go_wp2_with fail
    refine (HS.out.put1 (HD.out.below HS.out.bel) (by have := HZ.out.1; omega)).mono ?_
    rintro e w6 ⟨rfl, hS6⟩
    have HS6 := Lib.hid hS6
    clear hS6 HS
    go_wp2
    go_loopw [8] (fun iv wr => ∃ i : Nat, i ≤ m ∧ iv = .int .i64 i ∧ S3 w pb qb rb (zs ++ ds) (ds.take i) (ds ++ zs) wr) (fun iv _ => m - (intOf iv).toNat)
    case atStart => exact ⟨0, Nat.zero_le _, rfl, by simpa using HS6.out⟩
    case round =>
      clear HS6
      obtain ⟨i, hi, rfl, hS⟩ := hrel
      by_cases hlt : i < m
      · obtain ⟨b, o, e, hbl, hc⟩ := (HD.out.below hS.bel).2 (by omega)
        have hcell := hc i hlt
        clear hc
        subst e
        have hbs := hS.bel.size
        have hdl := HD.out.1
        have HPU := Lib.hid (hS.put2new (x := HL.el ds i) (by rw [List.length_take]; omega))
        have htk : ds.take i ++ [HL.el ds i] = ds.take (i + 1) := by
          rw [List.take_add_one]
          congr 1
          have h1 : ds[i]? = some (HL.el ds i) := HL.el_eq ds i (by omega)
          rw [h1]
          rfl
        rw [htk] at HPU
        clear htk hS hdl
        generalize hx : HL.el ds i = x at *
        clear hx
        go_wp2_with fail
        refine HPU.out.mono ?_
        rintro e w2 ⟨rfl, hR⟩
        have HR := Lib.hid hR
        clear hR HPU
        go_wp2
        go_roundw
        case rel => exact ⟨i + 1, by omega, by go_num, HR.out⟩
        case measure => simp [intOf]; omega
      · have : i = m := by omega
        subst this
        have HS7 : Hid (S3 w pb qb rb (zs ++ ds) ds (ds ++ zs) wr) := by
          have : ds.take i = ds := by rw [List.take_of_length_le]; have := HD.out.1; omega
          rw [this] at hS
          exact hS
        clear hS
        go_wp2_with fail
        refine (HS7.out.put2 (HZ.out.below HS7.out.bel) HS7.out.bel.size (by have := HD.out.1; omega) (fun b o e h0 => ?_)).mono ?_
        · obtain ⟨b', o', e', hlt', _⟩ := HZ.out.2 h0
          rw [e] at e'
          injection e' with e'
          injection e' with e' _
          omega
        rintro e w8 ⟨rfl, hS8⟩
        have HS8 := Lib.hid hS8
        clear hS8 HS7
        go_wp2_with fail
        refine (alive_true _).mono ?_
        rintro e w9 ⟨rfl, hb9⟩
        have HS9 := Lib.hid (HS8.out.later hb9)
        clear hb9 HS8
        have HN1 : Hid ((zs ++ ds).length = n + i) := Lib.hid (by rw [List.length_append, HD.out.1, HZ.out.1])
        have HN2 : Hid ((ds ++ zs).length = n + i) := Lib.hid (by rw [List.length_append, HD.out.1, HZ.out.1, Nat.add_comm])
        go_wp2_with fail
        refine (HS9.out.list pb _ (n + i) HN1.out (.inl ⟨rfl, rfl⟩)).mono ?_
        rintro e wA1 ⟨uA1, cA1, rfl, hrA1, hbA1⟩
        have HRA1 := Lib.hid hrA1
        have HSA1 := Lib.hid (HS9.out.later hbA1)
        clear hrA1 hbA1 HS9
        go_wp2_with fail
        refine (HSA1.out.list qb _ (n + i) HN2.out (.inr (.inl ⟨rfl, rfl⟩))).mono ?_
        rintro e wB1 ⟨uB1, cB1, rfl, hrB1, hbB1⟩
        have HRB1 := Lib.hid hrB1
        have HRC1 := Lib.hid ((HRA1.out.below hbB1).more hbB1.size)
        have HSB1 := Lib.hid (HSA1.out.later hbB1)
        clear hrB1 hbB1 HRA1 HSA1
        have HSM1 := Lib.hid (same_ints uA1 uB1 (n + i) cA1 (n + i) cB1 _ _ wB1 _ _ HRC1.out HRB1.out (by omega) (by omega))
        go_wp2_with fail
        refine HSM1.out.mono ?_
        rintro e wC1 ⟨bo1, nd1, rfl, hb1, hw1⟩
        obtain rfl : bo1 = true := hb1.2 (CL.srt_of_perm List.perm_append_comm)
        have HSC1 := Lib.hid (HSB1.out.later (show Below wB1.heap.size wB1 wC1 by rw [hw1]; exact ((Fr.refl (fun _ => False) _).drewN _).below (Nat.le_refl _) (fun _ h => h.elim)))
        clear hb1 hw1 HRB1 HRC1 HSB1
        go_wp2_with fail
        refine (HSC1.out.list pb _ (n + i) HN1.out (.inl ⟨rfl, rfl⟩)).mono ?_
        rintro e wA2 ⟨uA2, cA2, rfl, hrA2, hbA2⟩
        have HRA2 := Lib.hid hrA2
        have HSA2 := Lib.hid (HSC1.out.later hbA2)
        clear hrA2 hbA2 HSC1
        go_wp2_with fail
        refine (HSA2.out.list rb _ (n + i) HN2.out (.inr (.inr ⟨rfl, rfl⟩))).mono ?_
        rintro e wB2 ⟨uB2, cB2, rfl, hrB2, hbB2⟩
        have HRB2 := Lib.hid hrB2
        have HRC2 := Lib.hid ((HRA2.out.below hbB2).more hbB2.size)
        have HSB2 := Lib.hid (HSA2.out.later hbB2)
        clear hrB2 hbB2 HRA2 HSA2
        have HSM2 := Lib.hid (same_ints uA2 uB2 (n + i) cA2 (n + i) cB2 _ _ wB2 _ _ HRC2.out HRB2.out (by omega) (by omega))
        go_wp2_with fail
        refine HSM2.out.mono ?_
        rintro e wC2 ⟨bo2, nd2, rfl, hb2, hw2⟩
        obtain rfl : bo2 = true := hb2.2 (CL.srt_of_perm List.perm_append_comm)
        have HSC2 := Lib.hid (HSB2.out.later (show Below wB2.heap.size wB2 wC2 by rw [hw2]; exact ((Fr.refl (fun _ => False) _).drewN _).below (Nat.le_refl _) (fun _ h => h.elim)))
        clear hb2 hw2 HRB2 HRC2 HSB2
        go_wp2_with fail
        refine (HSC2.out.len (n + i) HN1.out).mono ?_
        rintro e w10 ⟨rfl, rfl⟩
        have hq : (IntKind.i64.wrap ((n : Int) + (i : Int))) = (n : Int) + (i : Int) := IntWalk.i64_in _ ⟨by omega, by omega⟩
        have hq2 : (((n + i : Nat) : Int) == (n : Int) + (i : Int)) = true := by rw [beq_iff_eq]; omega
        go_wp2
        go_ret
        exact ⟨by simp, HSC2.out.bel⟩
end Go.Proofs.Ytllmdhkeapabjaa
