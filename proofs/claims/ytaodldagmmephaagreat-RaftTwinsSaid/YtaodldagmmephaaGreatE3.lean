/- Merged texts: Vm Vs. -/
import Derived.Test.YtaodldagmmephaaGreatE2
import Derived.Test.YtaodldagmmephaaGreatB2
import Derived.Test.YtaodldagmmephaaGreatA1
import Derived.Test.YtaodldagmmephaaGreatE1
/- arboretumref22.PutMsg, SameMsg; arboretumbook.SameMsgs: messages as cores send them. -/
namespace Go.Proofs.YtaodldagmmephaaGreat
open Go.RowKit Go.Lib
namespace RF
def headS (m : Mg) : ByteArray := ((⟨#[109]⟩ ++ bytesOf (varsL [m.kd, m.fr, m.tq, m.tm, m.ix, m.lt, m.cm, m.rd])) ++ bytesOf (boolL m.ok)) ++ bytesOf (boolL false)
def bodyS (m : Mg) : ByteArray := ((headS m ++ bytesOf (putL m.en)) ++ bytesOf (memsL [])) ++ bytesOf (varsL [0, 0])
/-- What a message's bytes are. -/
def msgS (m : Mg) : ByteArray := bodyS m ++ fixS (crcS (bodyS m)) 4
def msgV (m : Mg) (pe : Option Addr) (ce : Nat) : Value := .agg #[.int .i64 m.kd, .int .i64 m.fr, .int .i64 m.tq, .int .i64 m.tm, .int .i64 m.ix, .int .i64 m.lt, .int .i64 m.cm, .int .i64 m.rd, .bool m.ok, .bool false, .slice pe m.en.length ce, .slice none 0 0, .int .i64 0, .slice none 0 0]
theorem boolL_len (b : Bool) : (boolL b).length = 1 := by unfold boolL; split <;> rfl
set_option maxHeartbeats 2000000 in
set_option maxRecDepth 100000 in
theorem put_msg (m : Mg) (pe : Option Addr) (ce : Nat) (w : World) (h : RdG ecells w w.heap.size pe m.en.length m.en) (hda : ∀ e ∈ m.en, e.da.size ≤ 2000000) (hn : m.en.length ≤ 8) :
    Calls Tryz.prog 114 #[msgV m pe ce] w fun e w' => e = .returned (.string (msgS m)) ∧ Below w.heap.size w w' := by
  have HP := Lib.hid h
  have HDA := Lib.hid hda
  have hb1 : Below w.heap.size w (w.alloc (.cells #[.int .i64 m.kd, .int .i64 m.fr, .int .i64 m.tq, .int .i64 m.tm, .int .i64 m.ix, .int .i64 m.lt, .int .i64 m.cm, .int .i64 m.rd, .bool m.ok, .bool false, .slice pe m.en.length ce, .slice none 0 0, .int .i64 0, .slice none 0 0] 48)) := (Below.refl _ w).alloc (Nat.le_refl _) _
  have X1 := CBox.fresh w [.int .i64 m.kd, .int .i64 m.fr, .int .i64 m.tq, .int .i64 m.tm, .int .i64 m.ix, .int .i64 m.lt, .int .i64 m.cm, .int .i64 m.rd, .bool m.ok, .bool false, .slice pe m.en.length ce, .slice none 0 0, .int .i64 0, .slice none 0 0] 48
  have HB1 := Lib.hid hb1
  unfold msgV
  clear h hda hb1
  go_enter Tryz.func114, Tryz.ntmps114
  go_upto_region 1 with fail
  dsimp only [List.toArray] at X1
  generalize w.alloc (.cells #[.int .i64 m.kd, .int .i64 m.fr, .int .i64 m.tq, .int .i64 m.tm, .int .i64 m.ix, .int .i64 m.lt, .int .i64 m.cm, .int .i64 m.rd, .bool m.ok, .bool false, .slice pe m.en.length ce, .slice none 0 0, .int .i64 0, .slice none 0 0] 48) = W1 at *
  generalize w.heap.size = b1 at X1 ⊢
  have HX1 := Lib.hid X1
  clear X1
  have a0 : ∀ q : Later W1, q.1.cell? ⟨b1, 0, none⟩ = some (.int .i64 m.kd) := fun q => (HX1.out.below q.2).1 0 _ rfl
  have a1 : ∀ q : Later W1, q.1.cell? ⟨b1, 1, none⟩ = some (.int .i64 m.fr) := fun q => (HX1.out.below q.2).1 1 _ rfl
  have a2 : ∀ q : Later W1, q.1.cell? ⟨b1, 2, none⟩ = some (.int .i64 m.tq) := fun q => (HX1.out.below q.2).1 2 _ rfl
  have a3 : ∀ q : Later W1, q.1.cell? ⟨b1, 3, none⟩ = some (.int .i64 m.tm) := fun q => (HX1.out.below q.2).1 3 _ rfl
  have a4 : ∀ q : Later W1, q.1.cell? ⟨b1, 4, none⟩ = some (.int .i64 m.ix) := fun q => (HX1.out.below q.2).1 4 _ rfl
  have a5 : ∀ q : Later W1, q.1.cell? ⟨b1, 5, none⟩ = some (.int .i64 m.lt) := fun q => (HX1.out.below q.2).1 5 _ rfl
  have a6 : ∀ q : Later W1, q.1.cell? ⟨b1, 6, none⟩ = some (.int .i64 m.cm) := fun q => (HX1.out.below q.2).1 6 _ rfl
  have a7 : ∀ q : Later W1, q.1.cell? ⟨b1, 7, none⟩ = some (.int .i64 m.rd) := fun q => (HX1.out.below q.2).1 7 _ rfl
  have a8 : ∀ q : Later W1, q.1.cell? ⟨b1, 8, none⟩ = some (.bool m.ok) := fun q => (HX1.out.below q.2).1 8 _ rfl
  have a9 : ∀ q : Later W1, q.1.cell? ⟨b1, 9, none⟩ = some (.bool false) := fun q => (HX1.out.below q.2).1 9 _ rfl
  refine Mix.region_mix (n := 27) (m := 8) (fun V => ∃ q : Later W1, V = q.1) [0, 1, 2, 3, 4, 5, 6, 7, 8, 9, 10, 11, 12, 13, 14, 15, 19, 20, 23, 24] (by kernel_rfl) rfl rfl (by kernel_rfl) (by kernel_rfl) ⟨⟨_, (Below.refl _ _).drew⟩, rfl⟩ ?_
  repeat (refine Mix.picks_step rfl ?_; go_big_quiet_step (fail))
  refine Mix.picks_nil ?_
  intro inv
  have hS1 : (bytesOf (varsL [m.kd, m.fr, m.tq, m.tm, m.ix, m.lt, m.cm, m.rd])).size ≤ 80 := by rw [bytes_size]; exact varsL_len _
  have hS2 : (bytesOf (boolL m.ok)).size = 1 := by rw [bytes_size, boolL_len]
  have hS3 : (bytesOf (boolL false)).size = 1 := by rw [bytes_size, boolL_len]
  have HHD : Hid (headS m = ((⟨#[109]⟩ ++ bytesOf (varsL [m.kd, m.fr, m.tq, m.tm, m.ix, m.lt, m.cm, m.rd])) ++ bytesOf (boolL m.ok)) ++ bytesOf (boolL false)) := Lib.hid rfl
  have HVS : Hid (∀ W g, RdI W W.heap.size (some ⟨g, 0, none⟩) 8 [m.kd, m.fr, m.tq, m.tm, m.ix, m.lt, m.cm, m.rd] → Calls Tryz.prog 68 #[.slice (some ⟨g, 0, none⟩) 8 8] W fun e w' => e = .returned (.string (bytesOf (varsL [m.kd, m.fr, m.tq, m.tm, m.ix, m.lt, m.cm, m.rd]))) ∧ Below W.heap.size W w') := Lib.hid (fun W g h => ref_vars _ 8 8 _ W h (by omega))
  have HRD : Hid (RdI (W1.alloc (.cells #[.int .i64 m.kd, .int .i64 m.fr, .int .i64 m.tq, .int .i64 m.tm, .int .i64 m.ix, .int .i64 m.lt, .int .i64 m.cm, .int .i64 m.rd] 3)).drew (W1.alloc (.cells #[.int .i64 m.kd, .int .i64 m.fr, .int .i64 m.tq, .int .i64 m.tm, .int .i64 m.ix, .int .i64 m.lt, .int .i64 m.cm, .int .i64 m.rd] 3)).drew.heap.size (some ⟨W1.heap.size, 0, none⟩) 8 [m.kd, m.fr, m.tq, m.tm, m.ix, m.lt, m.cm, m.rd]) := Lib.hid ((rd_new W1 [m.kd, m.fr, m.tq, m.tm, m.ix, m.lt, m.cm, m.rd] _).below (Below.refl _ _).drew)
  have HBT : Hid (∀ W, Calls Tryz.prog 128 #[.bool m.ok] W fun e w' => e = .returned (.string (bytesOf (boolL m.ok))) ∧ w' = W) := Lib.hid (fun W => ref_bool m.ok W)
  have HBF : Hid (∀ W, Calls Tryz.prog 128 #[.bool false] W fun e w' => e = .returned (.string (bytesOf (boolL false))) ∧ w' = W) := Lib.hid (fun W => ref_bool false W)
  generalize bytesOf (varsL [m.kd, m.fr, m.tq, m.tm, m.ix, m.lt, m.cm, m.rd]) = S1 at *
  generalize bytesOf (boolL m.ok) = S2 at *
  generalize bytesOf (boolL false) = S3 at *
  have g1 : ¬ (9223372036854775807 < (⟨#[109]⟩ : ByteArray).size + S1.size) := by show ¬ (9223372036854775807 < 1 + S1.size); omega
  have g2 : ¬ (9223372036854775807 < ((⟨#[109]⟩ : ByteArray) ++ S1).size + S2.size) := by rw [ByteArray.size_append]; show ¬ (9223372036854775807 < 1 + S1.size + S2.size); omega
  have g3 : ¬ (9223372036854775807 < ((⟨#[109]⟩ : ByteArray) ++ S1 ++ S2).size + S3.size) := by rw [ByteArray.size_append, ByteArray.size_append]; show ¬ (9223372036854775807 < 1 + S1.size + S2.size + S3.size); omega
  have hHS : (headS m).size ≤ 83 := by rw [HHD.out, ByteArray.size_append, ByteArray.size_append, ByteArray.size_append]; show 1 + S1.size + S2.size + S3.size ≤ 83; omega
  have HHS := Lib.hid hHS
  clear hHS hS1 hS2 hS3
  refine sink_one (i := 16) (by kernel_rfl) rfl (by omega) inv (fun K hK => ?_)
  have HKK := Lib.hid hK
  clear hK
  go_simp
  refine HKK.out _ _ ⟨⟨_, ((Below.refl _ _).alloc (Nat.le_refl _) _).drew⟩, rfl⟩ ?_
  clear HKK inv
  intro hS inv
  (try simp only [Act.put]); (try simp only [List.setIfInBounds_toArray]); (try simp only [List.set_cons_succ]); (try simp only [List.set_cons_zero])
  refine sink_one (i := 17) (by kernel_rfl) rfl (by omega) inv (fun K hK => ?_)
  have HKK := Lib.hid hK
  clear hK
  go_simp
  with_reducible refine (HVS.out _ _ HRD.out).mono ?_
  rintro e W3 ⟨rfl, hb3⟩
  have HB3 : Hid (Below W1.heap.size W1 W3) := Lib.hid (((Below.refl _ W1).alloc (Nat.le_refl _) _).drew.trans (hb3.mono ((Below.refl _ W1).alloc (Nat.le_refl _) _).drew.size))
  clear hb3 HRD HVS
  refine HKK.out _ _ ⟨⟨_, HB3.out⟩, rfl⟩ ?_
  clear HKK inv
  intro hS inv
  (try simp only [Act.put]); (try simp only [List.setIfInBounds_toArray]); (try simp only [List.set_cons_succ]); (try simp only [List.set_cons_zero])
  refine Mix.more2 [18] (m := 5) rfl (by kernel_rfl) (by kernel_rfl) inv ⟨⟨_, HB3.out⟩, rfl⟩ (Mix.picks_cons rfl Mix.picks_end) ?_
  repeat (go_big_quiet_step (fail))
  refine wpQuiet_nil ?_
  clear inv
  intro inv
  refine sink_one (i := 21) (by kernel_rfl) rfl (by omega) inv (fun K hK => ?_)
  have HKK := Lib.hid hK
  clear hK
  go_simp
  with_reducible refine (HBT.out _).mono ?_
  rintro e W4 ⟨rfl, hw4⟩
  have hw4 := hw4.symm
  subst hw4
  refine HKK.out _ _ ⟨⟨_, HB3.out⟩, rfl⟩ ?_
  clear HKK inv
  intro hS inv
  (try simp only [Act.put]); (try simp only [List.setIfInBounds_toArray]); (try simp only [List.set_cons_succ]); (try simp only [List.set_cons_zero])
  refine Mix.more2 [22] (m := 3) rfl (by kernel_rfl) (by kernel_rfl) inv ⟨⟨_, HB3.out⟩, rfl⟩ (Mix.picks_cons rfl Mix.picks_end) ?_
  repeat (go_big_quiet_step (fail))
  refine wpQuiet_nil ?_
  clear inv
  intro inv
  refine sink_one (i := 25) (by kernel_rfl) rfl (by omega) inv (fun K hK => ?_)
  have HKK := Lib.hid hK
  clear hK
  go_simp
  with_reducible refine (HBF.out _).mono ?_
  rintro e W4 ⟨rfl, hw4⟩
  have hw4 := hw4.symm
  subst hw4
  refine HKK.out _ _ ⟨⟨_, HB3.out⟩, rfl⟩ ?_
  clear HKK inv
  intro hS inv
  (try simp only [Act.put]); (try simp only [List.setIfInBounds_toArray]); (try simp only [List.set_cons_succ]); (try simp only [List.set_cons_zero])
  refine Mix.more2 [26] (m := 1) rfl (by kernel_rfl) (by kernel_rfl) inv ⟨⟨_, HB3.out⟩, rfl⟩ (Mix.picks_cons rfl Mix.picks_end) ?_
  repeat (go_big_quiet_step (fail))
  refine wpQuiet_nil ?_
  clear inv
  intro inv
  refine sink_last (by kernel_rfl) rfl (by kernel_rfl) (fun K hK => ?_)
  have HKK := Lib.hid hK
  clear hK
  go_simp
  refine HKK.out _ _ ⟨rfl, ?_⟩
  clear HKK inv hS
  rw [← HHD.out]
  clear a0 a1 a2 a3 a4 a5 a6 a7 a8 a9 g1 g2 g3 HBT HBF HHD
  (try clear S1 S2 S3)
  have HB5 := Lib.hid (HB1.out.trans (HB3.out.mono HB1.out.size))
  have HX5 := Lib.hid (HX1.out.below HB3.out)
  clear HB1 HB3 HX1
  generalize W3 = W5 at *
  have HBD : Hid (bodyS m = ((headS m ++ bytesOf (putL m.en)) ++ bytesOf (memsL [])) ++ bytesOf (varsL [0, 0])) := Lib.hid rfl
  have HMS : Hid (msgS m = bodyS m ++ fixS (crcS (bodyS m)) 4) := Lib.hid rfl
  have HRE := Lib.hid (HP.out.below HB5.out)
  have K3 : Hid (∀ W, Below W5.heap.size W5 W → Calls Tryz.prog 129 #[.slice pe m.en.length ce] W fun e w' => e = .returned (.string (bytesOf (putL m.en))) ∧ Below W.heap.size W w') := Lib.hid (fun W hW => ref_put_ens pe _ ce m.en W ((HRE.out.below (hW.mono HB5.out.size)).more (Nat.le_trans HB5.out.size hW.size)) HDA.out (by omega))
  have K7 : Hid (∀ W, Below W5.heap.size W5 W → Calls Tryz.prog 21 #[.slice none 0 0] W fun e w' => e = .returned (.string (bytesOf (memsL []))) ∧ Below W.heap.size W w') := Lib.hid (fun W _ => ref_putMembers none 0 0 [] W ⟨rfl, fun h => absurd h (by omega)⟩ (by omega))
  have K15 : Hid (∀ W g, RdI W W.heap.size (some ⟨g, 0, none⟩) 2 [0, 0] → Calls Tryz.prog 68 #[.slice (some ⟨g, 0, none⟩) 2 2] W fun e w' => e = .returned (.string (bytesOf (varsL [0, 0]))) ∧ Below W.heap.size W w') := Lib.hid (fun W g h => ref_vars _ 2 2 _ W h (by omega))
  have hp1 : (bytesOf (putL m.en)).size ≤ 20000000 := by
    rw [bytes_size]
    unfold putL
    rw [List.length_append]
    have h1 := varL_len (m.en.length : Int)
    have h2 := ents_len m.en HDA.out
    omega
  have hp2 : (bytesOf (memsL [])).size ≤ 10 := by
    rw [bytes_size]
    show (varL 0 ++ varsL []).length ≤ 10
    rw [List.length_append]
    have h1 := varL_len 0
    show (varL 0).length + 0 ≤ 10
    omega
  have hp3 : (bytesOf (varsL [0, 0])).size ≤ 20 := by rw [bytes_size]; exact varsL_len _
  have hh := HHS.out
  generalize headS m = HS at *
  generalize bytesOf (putL m.en) = S4 at *
  generalize bytesOf (memsL []) = S5 at *
  generalize bytesOf (varsL [0, 0]) = S6 at *
  have g4 : ¬ (9223372036854775807 < HS.size + S4.size) := by omega
  have g5 : ¬ (9223372036854775807 < (HS ++ S4).size + S5.size) := by rw [ByteArray.size_append]; omega
  have g6 : ¬ (9223372036854775807 < (HS ++ S4 ++ S5).size + S6.size) := by rw [ByteArray.size_append, ByteArray.size_append]; omega
  have HSZ : Hid ((bodyS m).size ≤ 20000200) := Lib.hid (by rw [HBD.out, ByteArray.size_append, ByteArray.size_append, ByteArray.size_append]; omega)
  clear hp1 hp2 hp3 hh
  have a10 : ∀ q : Later W5, q.1.cell? ⟨b1, 10, none⟩ = some (.slice pe m.en.length ce) := fun q => (HX5.out.below q.2).1 10 _ rfl
  have a11 : ∀ q : Later W5, q.1.cell? ⟨b1, 11, none⟩ = some (.slice none 0 0) := fun q => (HX5.out.below q.2).1 11 _ rfl
  have a12 : ∀ q : Later W5, q.1.cell? ⟨b1, 12, none⟩ = some (.int .i64 0) := fun q => (HX5.out.below q.2).1 12 _ rfl
  have a13 : ∀ q : Later W5, q.1.cell? ⟨b1, 13, none⟩ = some (.slice none 0 0) := fun q => (HX5.out.below q.2).1 13 _ rfl
  go_upto_region 2 with fail
  go_cut [3] (fun s3 wx => s3 = .string (bodyS m) ∧ Hid (Below W5.heap.size W5 wx))
  case first =>
    go_wp2_with fail
    refine Mix.region_mix (n := 17) (m := 8) (fun V => ∃ q : Later W5, V = q.1) [0, 1, 2, 5, 6, 9, 10, 11, 12, 13] (by kernel_rfl) rfl rfl (by kernel_rfl) (by kernel_rfl) ⟨⟨_, (Below.refl _ _).drew⟩, rfl⟩ ?_
    repeat (refine Mix.picks_step rfl ?_; go_big_quiet_step (fail))
    refine Mix.picks_nil ?_
    intro inv
    refine sink_two (i := 3) (j := 14) (by kernel_rfl) rfl rfl (by omega) (by omega) inv (fun K hK => ?_) (fun K hK => ?_)
    · have HKK := Lib.hid hK
      clear hK
      go_simp
      with_reducible refine (K3.out _ ((Below.refl W5.heap.size W5).drew)).mono ?_
      rintro e W21 ⟨rfl, hb21⟩
      have HB21 := Lib.hid (((Below.refl W5.heap.size W5).drew).trans (hb21.mono ((Below.refl W5.heap.size W5).drew).size))
      clear hb21
      refine HKK.out _ _ ⟨⟨_, HB21.out⟩, rfl⟩ ?_
      clear HKK inv
      intro hS inv
      (try simp only [Act.put]); (try simp only [List.setIfInBounds_toArray]); (try simp only [List.set_cons_succ]); (try simp only [List.set_cons_zero])
      refine Mix.more2 [4] (m := 6) rfl (by kernel_rfl) (by kernel_rfl) inv ⟨⟨_, HB21.out⟩, rfl⟩ (Mix.picks_cons rfl Mix.picks_end) ?_
      repeat (go_big_quiet_step (fail))
      refine wpQuiet_nil ?_
      clear inv
      intro inv
      refine sink_two (i := 7) (j := 14) (by kernel_rfl) rfl rfl (by omega) (by omega) inv (fun K hK => ?_) (fun K hK => ?_)
      · have HKK := Lib.hid hK
        clear hK
        go_simp
        with_reducible refine (K7.out _ (HB21.out)).mono ?_
        rintro e W22 ⟨rfl, hb22⟩
        have HB22 := Lib.hid ((HB21.out).trans (hb22.mono (HB21.out).size))
        clear hb22
        refine HKK.out _ _ ⟨⟨_, HB22.out⟩, rfl⟩ ?_
        clear HKK inv
        intro hS inv
        (try simp only [Act.put]); (try simp only [List.setIfInBounds_toArray]); (try simp only [List.set_cons_succ]); (try simp only [List.set_cons_zero])
        refine Mix.more2 [8] (m := 4) rfl (by kernel_rfl) (by kernel_rfl) inv ⟨⟨_, HB22.out⟩, rfl⟩ (Mix.picks_cons rfl Mix.picks_end) ?_
        repeat (go_big_quiet_step (fail))
        refine wpQuiet_nil ?_
        clear inv
        intro inv
        refine sink_one (i := 14) (by kernel_rfl) rfl (by omega) inv (fun K hK => ?_)
        have HKK := Lib.hid hK
        clear hK
        go_simp
        have HQ23 : Hid (RdI (W22.alloc (.cells #[.int .i64 0, .int .i64 0] 3)) (W22.alloc (.cells #[.int .i64 0, .int .i64 0] 3)).heap.size (some ⟨W22.heap.size, 0, none⟩) 2 [0, 0]) := Lib.hid (rd_new W22 [0, 0] _)
        refine HKK.out _ _ ⟨⟨_, ((HB22.out).alloc (HB22.out).size (.cells #[.int .i64 0, .int .i64 0] 3))⟩, rfl⟩ ?_
        clear HKK inv
        intro hS inv
        (try simp only [Act.put]); (try simp only [List.setIfInBounds_toArray]); (try simp only [List.set_cons_succ]); (try simp only [List.set_cons_zero])
        refine sink_one (i := 15) (by kernel_rfl) rfl (by omega) inv (fun K hK => ?_)
        have HKK := Lib.hid hK
        clear hK
        go_simp
        with_reducible refine (K15.out _ _ HQ23.out).mono ?_
        rintro e W24 ⟨rfl, hb24⟩
        have HB24 := Lib.hid ((((HB22.out).alloc (HB22.out).size (.cells #[.int .i64 0, .int .i64 0] 3))).trans (hb24.mono (((HB22.out).alloc (HB22.out).size (.cells #[.int .i64 0, .int .i64 0] 3))).size))
        clear hb24
        refine HKK.out _ _ ⟨⟨_, HB24.out⟩, rfl⟩ ?_
        clear HKK inv
        intro hS inv
        (try simp only [Act.put]); (try simp only [List.setIfInBounds_toArray]); (try simp only [List.set_cons_succ]); (try simp only [List.set_cons_zero])
        refine Mix.more2 [16] (m := 1) rfl (by kernel_rfl) (by kernel_rfl) inv ⟨⟨_, HB24.out⟩, rfl⟩ (Mix.picks_cons rfl Mix.picks_end) ?_
        repeat (go_big_quiet_step (fail))
        refine wpQuiet_nil ?_
        clear inv
        intro inv
        refine sink_last (by kernel_rfl) rfl (by kernel_rfl) (fun K hK => ?_)
        have HKK := Lib.hid hK
        clear hK
        go_simp
        refine HKK.out _ _ ⟨rfl, ?_⟩
        clear HKK inv hS
        go_wp2
        go_meet
        case rel => exact ⟨by rw [HBD.out], Lib.hid (HB24.out)⟩
      · have HKK := Lib.hid hK
        clear hK
        go_simp
        have HQ25 : Hid (RdI (W21.alloc (.cells #[.int .i64 0, .int .i64 0] 3)) (W21.alloc (.cells #[.int .i64 0, .int .i64 0] 3)).heap.size (some ⟨W21.heap.size, 0, none⟩) 2 [0, 0]) := Lib.hid (rd_new W21 [0, 0] _)
        refine HKK.out _ _ ⟨⟨_, ((HB21.out).alloc (HB21.out).size (.cells #[.int .i64 0, .int .i64 0] 3))⟩, rfl⟩ ?_
        clear HKK inv
        intro hS inv
        (try simp only [Act.put]); (try simp only [List.setIfInBounds_toArray]); (try simp only [List.set_cons_succ]); (try simp only [List.set_cons_zero])
        refine sink_one (i := 7) (by kernel_rfl) rfl (by omega) inv (fun K hK => ?_)
        have HKK := Lib.hid hK
        clear hK
        go_simp
        with_reducible refine (K7.out _ (((HB21.out).alloc (HB21.out).size (.cells #[.int .i64 0, .int .i64 0] 3)))).mono ?_
        rintro e W26 ⟨rfl, hb26⟩
        have HB26 := Lib.hid ((((HB21.out).alloc (HB21.out).size (.cells #[.int .i64 0, .int .i64 0] 3))).trans (hb26.mono (((HB21.out).alloc (HB21.out).size (.cells #[.int .i64 0, .int .i64 0] 3))).size))
        have HQ26 := Lib.hid ((HQ25.out.below hb26).more hb26.size)
        clear hb26
        refine HKK.out _ _ ⟨⟨_, HB26.out⟩, rfl⟩ ?_
        clear HKK inv
        intro hS inv
        (try simp only [Act.put]); (try simp only [List.setIfInBounds_toArray]); (try simp only [List.set_cons_succ]); (try simp only [List.set_cons_zero])
        refine Mix.more2 [8] (m := 3) rfl (by kernel_rfl) (by kernel_rfl) inv ⟨⟨_, HB26.out⟩, rfl⟩ (Mix.picks_cons rfl Mix.picks_end) ?_
        repeat (go_big_quiet_step (fail))
        refine wpQuiet_nil ?_
        clear inv
        intro inv
        refine sink_one (i := 15) (by kernel_rfl) rfl (by omega) inv (fun K hK => ?_)
        have HKK := Lib.hid hK
        clear hK
        go_simp
        with_reducible refine (K15.out _ _ HQ26.out).mono ?_
        rintro e W27 ⟨rfl, hb27⟩
        have HB27 := Lib.hid ((HB26.out).trans (hb27.mono (HB26.out).size))
        clear hb27
        refine HKK.out _ _ ⟨⟨_, HB27.out⟩, rfl⟩ ?_
        clear HKK inv
        intro hS inv
        (try simp only [Act.put]); (try simp only [List.setIfInBounds_toArray]); (try simp only [List.set_cons_succ]); (try simp only [List.set_cons_zero])
        refine Mix.more2 [16] (m := 1) rfl (by kernel_rfl) (by kernel_rfl) inv ⟨⟨_, HB27.out⟩, rfl⟩ (Mix.picks_cons rfl Mix.picks_end) ?_
        repeat (go_big_quiet_step (fail))
        refine wpQuiet_nil ?_
        clear inv
        intro inv
        refine sink_last (by kernel_rfl) rfl (by kernel_rfl) (fun K hK => ?_)
        have HKK := Lib.hid hK
        clear hK
        go_simp
        refine HKK.out _ _ ⟨rfl, ?_⟩
        clear HKK inv hS
        go_wp2
        go_meet
        case rel => exact ⟨by rw [HBD.out], Lib.hid (HB27.out)⟩
    · have HKK := Lib.hid hK
      clear hK
      go_simp
      have HQ28 : Hid (RdI (W5.alloc (.cells #[.int .i64 0, .int .i64 0] 3)).drew (W5.alloc (.cells #[.int .i64 0, .int .i64 0] 3)).drew.heap.size (some ⟨W5.heap.size, 0, none⟩) 2 [0, 0]) := Lib.hid ((rd_new W5 [0, 0] _).below (Below.refl _ _).drew)
      refine HKK.out _ _ ⟨⟨_, ((Below.refl W5.heap.size W5).alloc (Nat.le_refl _) (.cells #[.int .i64 0, .int .i64 0] 3)).drew⟩, rfl⟩ ?_
      clear HKK inv
      intro hS inv
      (try simp only [Act.put]); (try simp only [List.setIfInBounds_toArray]); (try simp only [List.set_cons_succ]); (try simp only [List.set_cons_zero])
      refine sink_one (i := 3) (by kernel_rfl) rfl (by omega) inv (fun K hK => ?_)
      have HKK := Lib.hid hK
      clear hK
      go_simp
      with_reducible refine (K3.out _ (((Below.refl W5.heap.size W5).alloc (Nat.le_refl _) (.cells #[.int .i64 0, .int .i64 0] 3)).drew)).mono ?_
      rintro e W29 ⟨rfl, hb29⟩
      have HB29 := Lib.hid ((((Below.refl W5.heap.size W5).alloc (Nat.le_refl _) (.cells #[.int .i64 0, .int .i64 0] 3)).drew).trans (hb29.mono (((Below.refl W5.heap.size W5).alloc (Nat.le_refl _) (.cells #[.int .i64 0, .int .i64 0] 3)).drew).size))
      have HQ29 := Lib.hid ((HQ28.out.below hb29).more hb29.size)
      clear hb29
      refine HKK.out _ _ ⟨⟨_, HB29.out⟩, rfl⟩ ?_
      clear HKK inv
      intro hS inv
      (try simp only [Act.put]); (try simp only [List.setIfInBounds_toArray]); (try simp only [List.set_cons_succ]); (try simp only [List.set_cons_zero])
      refine Mix.more2 [4] (m := 5) rfl (by kernel_rfl) (by kernel_rfl) inv ⟨⟨_, HB29.out⟩, rfl⟩ (Mix.picks_cons rfl Mix.picks_end) ?_
      repeat (go_big_quiet_step (fail))
      refine wpQuiet_nil ?_
      clear inv
      intro inv
      refine sink_one (i := 7) (by kernel_rfl) rfl (by omega) inv (fun K hK => ?_)
      have HKK := Lib.hid hK
      clear hK
      go_simp
      with_reducible refine (K7.out _ (HB29.out)).mono ?_
      rintro e W30 ⟨rfl, hb30⟩
      have HB30 := Lib.hid ((HB29.out).trans (hb30.mono (HB29.out).size))
      have HQ30 := Lib.hid ((HQ29.out.below hb30).more hb30.size)
      clear hb30
      refine HKK.out _ _ ⟨⟨_, HB30.out⟩, rfl⟩ ?_
      clear HKK inv
      intro hS inv
      (try simp only [Act.put]); (try simp only [List.setIfInBounds_toArray]); (try simp only [List.set_cons_succ]); (try simp only [List.set_cons_zero])
      refine Mix.more2 [8] (m := 3) rfl (by kernel_rfl) (by kernel_rfl) inv ⟨⟨_, HB30.out⟩, rfl⟩ (Mix.picks_cons rfl Mix.picks_end) ?_
      repeat (go_big_quiet_step (fail))
      refine wpQuiet_nil ?_
      clear inv
      intro inv
      refine sink_one (i := 15) (by kernel_rfl) rfl (by omega) inv (fun K hK => ?_)
      have HKK := Lib.hid hK
      clear hK
      go_simp
      with_reducible refine (K15.out _ _ HQ30.out).mono ?_
      rintro e W31 ⟨rfl, hb31⟩
      have HB31 := Lib.hid ((HB30.out).trans (hb31.mono (HB30.out).size))
      clear hb31
      refine HKK.out _ _ ⟨⟨_, HB31.out⟩, rfl⟩ ?_
      clear HKK inv
      intro hS inv
      (try simp only [Act.put]); (try simp only [List.setIfInBounds_toArray]); (try simp only [List.set_cons_succ]); (try simp only [List.set_cons_zero])
      refine Mix.more2 [16] (m := 1) rfl (by kernel_rfl) (by kernel_rfl) inv ⟨⟨_, HB31.out⟩, rfl⟩ (Mix.picks_cons rfl Mix.picks_end) ?_
      repeat (go_big_quiet_step (fail))
      refine wpQuiet_nil ?_
      clear inv
      intro inv
      refine sink_last (by kernel_rfl) rfl (by kernel_rfl) (fun K hK => ?_)
      have HKK := Lib.hid hK
      clear hK
      go_simp
      refine HKK.out _ _ ⟨rfl, ?_⟩
      clear HKK inv hS
      go_wp2
      go_meet
      case rel => exact ⟨by rw [HBD.out], Lib.hid (HB31.out)⟩
  case rest =>
  obtain ⟨rfl, HBW⟩ := hcut
  generalize wc = W6 at *
  have HB6 := Lib.hid (HB5.out.trans (HBW.out.mono HB5.out.size))
  have HX6 := Lib.hid (HX5.out.below HBW.out)
  have HMS2 := Lib.hid HMS.out
  generalize bodyS m = BS at *
  clear a10 a11 a12 a13 K3 K7 K15 g4 g5 g6 HBD HMS HX5 HB5 HBW HRE HHS
  go_wp2
  go_loopw [3, 4] (fun sv iv wr => sv = .string BS ∧ iv = .int .i64 0 ∧ Hid (Below w.heap.size w wr ∧ wr.cell? ⟨b1, 13, none⟩ = some (.slice none 0 0))) (fun _ _ _ => 0)
  case atStart => exact ⟨rfl, rfl, Lib.hid ⟨HB6.out, HX6.out.1 13 _ rfl⟩⟩
  case round =>
    obtain ⟨rfl, rfl, HR⟩ := hrel
    have c13 := HR.out.2
    have HCR := Lib.hid (fun (W : World) => ref_crc BS W (by have := HSZ.out; omega))
    have hcl := crcN_lt BS BS.size
    have HFX := Lib.hid (fun (W : World) => ref_fix (crcS BS) 4 W (by unfold crcS; omega) (by omega) (by omega) (by unfold crcS; omega))
    rw [show ((4 : Nat) : Int) = 4 from rfl] at HFX
    have hfs : (fixS (crcS BS) 4).size = 4 := fixS_size _ _
    have g7 : ¬ (9223372036854775807 < BS.size + (fixS (crcS BS) 4).size) := by have := HSZ.out; omega
    have HBR := Lib.hid HR.out.1
    clear hfs hcl
    generalize fixS (crcS BS) 4 = FX at *
    generalize crcS BS = CR at *
    go_wp2_with fail
    with_reducible refine (HCR.out _).mono ?_
    rintro e W7 ⟨rfl, hw7⟩
    have hw7 := hw7.symm
    subst hw7
    go_wp2_with fail
    with_reducible refine (HFX.out _).mono ?_
    rintro e W8 ⟨rfl, hb8⟩
    have HBF := Lib.hid (HBR.out.trans (hb8.mono HBR.out.size))
    clear hb8
    go_wp2
    go_ret
    exact ⟨by rw [HMS2.out]; rfl, HBF.out⟩
end RF
end Go.Proofs.YtaodldagmmephaaGreat

/- arboretumref22.SameMsg; arboretumbook.SameMsgs: of messages that are alike. -/
namespace Go.Proofs.YtaodldagmmephaaGreat
open Go.RowKit Go.Lib
namespace RF
def mlist (m : Mg) (pe : Option Addr) (ce : Nat) : List Value := [.int .i64 m.kd, .int .i64 m.fr, .int .i64 m.tq, .int .i64 m.tm, .int .i64 m.ix, .int .i64 m.lt, .int .i64 m.cm, .int .i64 m.rd, .bool m.ok, .bool false, .slice pe m.en.length ce, .slice none 0 0, .int .i64 0, .slice none 0 0]
set_option maxHeartbeats 2000000 in
set_option maxRecDepth 100000 in
theorem same_msg (m : Mg) (pe pf : Option Addr) (ce cf : Nat) (w : World) (h : RdG ecells w w.heap.size pe m.en.length m.en) (h2 : RdG ecells w w.heap.size pf m.en.length m.en) (hda : ∀ e ∈ m.en, e.da.size ≤ 2000000) (hn : m.en.length ≤ 8) :
    Calls Tryz.prog 83 #[msgV m pe ce, msgV m pf cf] w fun e w' => e = .returned (.bool true) ∧ Below w.heap.size w w' := by
  have hb1 : Below w.heap.size w (w.alloc (.cells (mlist m pe ce).toArray 48)) := (Below.refl _ w).alloc (Nat.le_refl _) _
  have X1 := CBox.fresh w (mlist m pe ce) 48
  have hb2 : Below (w.alloc (.cells (mlist m pe ce).toArray 48)).heap.size (w.alloc (.cells (mlist m pe ce).toArray 48)) ((w.alloc (.cells (mlist m pe ce).toArray 48)).alloc (.cells (mlist m pf cf).toArray 48)) := (Below.refl _ _).alloc (Nat.le_refl _) _
  have X2 := CBox.fresh (w.alloc (.cells (mlist m pe ce).toArray 48)) (mlist m pf cf) 48
  have X1 := X1.below hb2
  have hbb := hb1.trans (hb2.mono hb1.size)
  have hs1 : (w.alloc (.cells (mlist m pe ce).toArray 48)).heap.size = w.heap.size + 1 := World.size_alloc _ _
  rw [hs1] at X2
  have HP := Lib.hid (fun (q : Later ((w.alloc (.cells (mlist m pe ce).toArray 48)).alloc (.cells (mlist m pf cf).toArray 48))) => put_msg m pe ce q.1 ((h.below (hbb.trans (q.2.mono hbb.size))).more (hbb.trans (q.2.mono hbb.size)).size) hda hn)
  have HP2 := Lib.hid (fun (q : Later ((w.alloc (.cells (mlist m pe ce).toArray 48)).alloc (.cells (mlist m pf cf).toArray 48))) => put_msg m pf cf q.1 ((h2.below (hbb.trans (q.2.mono hbb.size))).more (hbb.trans (q.2.mono hbb.size)).size) hda hn)
  have HBB := Lib.hid hbb
  unfold mlist at X1 X2 HP HP2 HBB
  dsimp only [List.toArray] at X1 X2 HP HP2 HBB
  unfold msgV at HP HP2 ⊢
  clear h h2 hda hb1 hb2 hbb hs1
  generalize msgS m = S at *
  go_enter Tryz.func83, Tryz.ntmps83
  go_upto_region 1 with fail
  generalize (w.alloc (.cells #[.int .i64 m.kd, .int .i64 m.fr, .int .i64 m.tq, .int .i64 m.tm, .int .i64 m.ix, .int .i64 m.lt, .int .i64 m.cm, .int .i64 m.rd, .bool m.ok, .bool false, .slice pe m.en.length ce, .slice none 0 0, .int .i64 0, .slice none 0 0] 48)).alloc (.cells #[.int .i64 m.kd, .int .i64 m.fr, .int .i64 m.tq, .int .i64 m.tm, .int .i64 m.ix, .int .i64 m.lt, .int .i64 m.cm, .int .i64 m.rd, .bool m.ok, .bool false, .slice pf m.en.length cf, .slice none 0 0, .int .i64 0, .slice none 0 0] 48) = W2 at *
  obtain ⟨b1, hb1⟩ : ∃ b1, b1 = w.heap.size := ⟨_, rfl⟩
  rw [← hb1] at X1 X2 ⊢
  have HX1 := Lib.hid X1
  have HX2 := Lib.hid X2
  have HBE := Lib.hid hb1
  clear X1 X2 hb1
  have a0 : ∀ q : Later W2, q.1.cell? ⟨b1, 0, none⟩ = some (.int .i64 m.kd) := fun q => (HX1.out.below q.2).1 0 _ rfl
  have a1 : ∀ q : Later W2, q.1.cell? ⟨b1, 1, none⟩ = some (.int .i64 m.fr) := fun q => (HX1.out.below q.2).1 1 _ rfl
  have a2 : ∀ q : Later W2, q.1.cell? ⟨b1, 2, none⟩ = some (.int .i64 m.tq) := fun q => (HX1.out.below q.2).1 2 _ rfl
  have a3 : ∀ q : Later W2, q.1.cell? ⟨b1, 3, none⟩ = some (.int .i64 m.tm) := fun q => (HX1.out.below q.2).1 3 _ rfl
  have a4 : ∀ q : Later W2, q.1.cell? ⟨b1, 4, none⟩ = some (.int .i64 m.ix) := fun q => (HX1.out.below q.2).1 4 _ rfl
  have a5 : ∀ q : Later W2, q.1.cell? ⟨b1, 5, none⟩ = some (.int .i64 m.lt) := fun q => (HX1.out.below q.2).1 5 _ rfl
  have a6 : ∀ q : Later W2, q.1.cell? ⟨b1, 6, none⟩ = some (.int .i64 m.cm) := fun q => (HX1.out.below q.2).1 6 _ rfl
  have a7 : ∀ q : Later W2, q.1.cell? ⟨b1, 7, none⟩ = some (.int .i64 m.rd) := fun q => (HX1.out.below q.2).1 7 _ rfl
  have a8 : ∀ q : Later W2, q.1.cell? ⟨b1, 8, none⟩ = some (.bool m.ok) := fun q => (HX1.out.below q.2).1 8 _ rfl
  have a9 : ∀ q : Later W2, q.1.cell? ⟨b1, 9, none⟩ = some (.bool false) := fun q => (HX1.out.below q.2).1 9 _ rfl
  have a10 : ∀ q : Later W2, q.1.cell? ⟨b1, 10, none⟩ = some (.slice pe m.en.length ce) := fun q => (HX1.out.below q.2).1 10 _ rfl
  have a11 : ∀ q : Later W2, q.1.cell? ⟨b1, 11, none⟩ = some (.slice none 0 0) := fun q => (HX1.out.below q.2).1 11 _ rfl
  have a12 : ∀ q : Later W2, q.1.cell? ⟨b1, 12, none⟩ = some (.int .i64 0) := fun q => (HX1.out.below q.2).1 12 _ rfl
  have a13 : ∀ q : Later W2, q.1.cell? ⟨b1, 13, none⟩ = some (.slice none 0 0) := fun q => (HX1.out.below q.2).1 13 _ rfl
  have c0 : ∀ q : Later W2, q.1.cell? ⟨b1 + 1, 0, none⟩ = some (.int .i64 m.kd) := fun q => (HX2.out.below q.2).1 0 _ rfl
  have c1 : ∀ q : Later W2, q.1.cell? ⟨b1 + 1, 1, none⟩ = some (.int .i64 m.fr) := fun q => (HX2.out.below q.2).1 1 _ rfl
  have c2 : ∀ q : Later W2, q.1.cell? ⟨b1 + 1, 2, none⟩ = some (.int .i64 m.tq) := fun q => (HX2.out.below q.2).1 2 _ rfl
  have c3 : ∀ q : Later W2, q.1.cell? ⟨b1 + 1, 3, none⟩ = some (.int .i64 m.tm) := fun q => (HX2.out.below q.2).1 3 _ rfl
  have c4 : ∀ q : Later W2, q.1.cell? ⟨b1 + 1, 4, none⟩ = some (.int .i64 m.ix) := fun q => (HX2.out.below q.2).1 4 _ rfl
  have c5 : ∀ q : Later W2, q.1.cell? ⟨b1 + 1, 5, none⟩ = some (.int .i64 m.lt) := fun q => (HX2.out.below q.2).1 5 _ rfl
  have c6 : ∀ q : Later W2, q.1.cell? ⟨b1 + 1, 6, none⟩ = some (.int .i64 m.cm) := fun q => (HX2.out.below q.2).1 6 _ rfl
  have c7 : ∀ q : Later W2, q.1.cell? ⟨b1 + 1, 7, none⟩ = some (.int .i64 m.rd) := fun q => (HX2.out.below q.2).1 7 _ rfl
  have c8 : ∀ q : Later W2, q.1.cell? ⟨b1 + 1, 8, none⟩ = some (.bool m.ok) := fun q => (HX2.out.below q.2).1 8 _ rfl
  have c9 : ∀ q : Later W2, q.1.cell? ⟨b1 + 1, 9, none⟩ = some (.bool false) := fun q => (HX2.out.below q.2).1 9 _ rfl
  have c10 : ∀ q : Later W2, q.1.cell? ⟨b1 + 1, 10, none⟩ = some (.slice pf m.en.length cf) := fun q => (HX2.out.below q.2).1 10 _ rfl
  have c11 : ∀ q : Later W2, q.1.cell? ⟨b1 + 1, 11, none⟩ = some (.slice none 0 0) := fun q => (HX2.out.below q.2).1 11 _ rfl
  have c12 : ∀ q : Later W2, q.1.cell? ⟨b1 + 1, 12, none⟩ = some (.int .i64 0) := fun q => (HX2.out.below q.2).1 12 _ rfl
  have c13 : ∀ q : Later W2, q.1.cell? ⟨b1 + 1, 13, none⟩ = some (.slice none 0 0) := fun q => (HX2.out.below q.2).1 13 _ rfl
  refine wp_region_later (by kernel_rfl) (by kernel_rfl) ?_
  repeat (go_big_quiet_step ((first | (go_at_call 114; with_reducible exact Calls.later_of (HP.out _)) | (go_at_call 114; with_reducible exact Calls.later_of (HP2.out _)))))
  refine wpQuiet_nil ?_
  intro W9 hw'
  obtain ⟨⟨wq, hq⟩, hw''⟩ := hw'
  have hwe : W9 = wq := hw''
  clear hw''
  subst hwe
  have HB9 := Lib.hid (HBB.out.trans (hq.mono HBB.out.size))
  go_wp2
  go_ret
  exact ⟨by simp, HB9.out⟩
theorem row_cell3 {α : Type} [Inhabited α] {cs : α → List Value} {size : Nat} (hs : ∀ x, (cs x).length = size) {W : World} {n b o : Nat} {l : List α} (hl : l.length = n) (hc : ∀ j u, (rowOf cs l)[j]? = some u → W.cell? ⟨b, o + j, none⟩ = some u) (k c : Nat) (hk : k < n) (u : Value) (hu : (cs (HL.el l k))[c]? = some u) (hcs : c < size) : W.cell? ⟨b, o + k * size + c, none⟩ = some u := by
  rw [Nat.add_assoc]
  refine hc (k * size + c) u ?_
  rw [rowOf_at cs hs l k c (by rw [hl]; exact hk) hcs]
  exact hu
/-- Messages as they are told: their entries read, and are few and short. -/
def MsgsAt (p : Option Addr) (A : List (Mg × Value)) (W : World) : Prop := RdG mcells W W.heap.size p A.length A ∧ ∀ x ∈ A, (∃ pe ce, x.2 = .slice pe x.1.en.length ce ∧ RdG ecells W W.heap.size pe x.1.en.length x.1.en) ∧ (∀ e ∈ x.1.en, e.da.size ≤ 2000000) ∧ x.1.en.length ≤ 8
theorem MsgsAt.below {p : Option Addr} {A : List (Mg × Value)} {W W' : World} (h : MsgsAt p A W) (hb : Below W.heap.size W W') : MsgsAt p A W' :=
  ⟨(h.1.below hb).more hb.size, fun x hx => by
    obtain ⟨⟨pe, ce, e, h1⟩, h2⟩ := h.2 x hx
    exact ⟨⟨pe, ce, e, (h1.below hb).more hb.size⟩, h2⟩⟩
theorem el_in2 {α : Type} [Inhabited α] {l : List α} {k : Nat} (h : k < l.length) : HL.el l k ∈ l := by
  unfold HL.el
  rw [List.getD_eq_getElem?_getD, List.getElem?_eq_getElem h]
  exact List.getElem_mem _
set_option maxHeartbeats 2000000 in
set_option maxRecDepth 100000 in
theorem same_msgs (p q : Option Addr) (c d : Nat) (A B : List (Mg × Value)) (w : World) (hA : MsgsAt p A w) (hB : MsgsAt q B w) (hAB : A.map (·.1) = B.map (·.1)) (hn : A.length ≤ 9223372036854775807) :
    Calls Tryz.prog 36 #[.slice p A.length c, .slice q B.length d] w fun e w' => e = .returned (.bool true) ∧ Below w.heap.size w w' := by
  have hlen : B.length = A.length := by
    have h := congrArg List.length hAB
    rw [List.length_map, List.length_map] at h
    exact h.symm
  have HA := Lib.hid hA
  have HB := Lib.hid hB
  have HAB := Lib.hid hAB
  have HLE := Lib.hid hlen
  rw [hlen]
  have hne : ((A.length : Int) != (A.length : Int)) = false := by simp
  clear hA hB hAB hlen
  go_enter Tryz.func36, Tryz.ntmps36
  go_wp2
  go_loopw [5] (fun iv wr => ∃ k : Nat, k ≤ A.length ∧ iv = .int .i64 (k : Int) ∧ Hid (Below w.heap.size w wr)) (fun iv _ => A.length - (intOf iv).toNat)
  case atStart => exact ⟨0, Nat.zero_le _, rfl, Lib.hid (Below.refl _ _)⟩
  case round =>
    obtain ⟨k, hk, rfl, HBK⟩ := hrel
    by_cases hlt : k < A.length
    case neg =>
      have hI : ¬ (k : Int) < (A.length : Int) := by omega
      go_wp2
      go_ret
      exact ⟨rfl, HBK.out⟩
    case pos =>
    have hI : (k : Int) < (A.length : Int) := by omega
    have hwk : IntKind.i64.wrap ((k : Int) + 1) = (k : Int) + 1 := IntWalk.i64_in _ (by omega)
    obtain ⟨b1, o1, e1, hb1, c1⟩ := HA.out.1.2 (by omega)
    obtain ⟨b2, o2, e2, hb2, c2⟩ := HB.out.1.2 (by have := HLE.out; omega)
    subst e1 e2
    have hm : (HL.el B k).1 = (HL.el A k).1 := by
      have h1 : (A.map (·.1))[k]? = some (HL.el A k).1 := by rw [List.getElem?_map, HL.el_eq A k hlt]; rfl
      rw [HAB.out, List.getElem?_map, HL.el_eq B k (by have := HLE.out; omega)] at h1
      injection h1
    obtain ⟨⟨pe, ce, hpe, hre⟩, hda, h8⟩ := HA.out.2 (HL.el A k) (el_in2 hlt)
    obtain ⟨⟨pf, cf, hpf, hrf⟩, _⟩ := HB.out.2 (HL.el B k) (el_in2 (by have := HLE.out; omega))
    rw [hm] at hpf hrf
    have F1 : ∀ (x : Later wr) j u, j < 14 → (mcells ((HL.el A k).1, .slice pe (HL.el A k).1.en.length ce))[j]? = some u → x.1.cell? ⟨b1, o1 + k * 14 + j, none⟩ = some u := fun x j u hj hu => by
      refine ((HBK.out.trans (x.2.mono HBK.out.size)).cell (p := ⟨b1, o1 + k * 14 + j, none⟩) hb1).trans (row_cell3 (size := 14) mcells_length rfl c1 k j hlt u ?_ hj)
      rw [← hpe] at hu
      exact hu
    have F2 : ∀ (x : Later wr) j u, j < 14 → (mcells ((HL.el A k).1, .slice pf (HL.el A k).1.en.length cf))[j]? = some u → x.1.cell? ⟨b2, o2 + k * 14 + j, none⟩ = some u := fun x j u hj hu => by
      refine ((HBK.out.trans (x.2.mono HBK.out.size)).cell (p := ⟨b2, o2 + k * 14 + j, none⟩) hb2).trans (row_cell3 (size := 14) mcells_length rfl c2 k j (by have := HLE.out; omega) u ?_ hj)
      rw [← hpf, ← hm] at hu
      exact hu
    have HS := Lib.hid (fun (x : Later wr) => same_msg (HL.el A k).1 pe pf ce cf x.1 ((hre.below (HBK.out.trans (x.2.mono HBK.out.size))).more (HBK.out.trans (x.2.mono HBK.out.size)).size) ((hrf.below (HBK.out.trans (x.2.mono HBK.out.size))).more (HBK.out.trans (x.2.mono HBK.out.size)).size) hda h8)
    clear hre hrf hda h8 hpe hpf hm c1 c2 hb1 hb2
    generalize (HL.el A k).1 = m at *
    unfold msgV at HS
    have a0 : ∀ q : Later wr, q.1.cell? ⟨b1, o1 + k * 14, none⟩ = some (.int .i64 m.kd) := fun q => F1 q 0 _ (by omega) rfl
    have a1 : ∀ q : Later wr, q.1.cell? ⟨b1, o1 + k * 14 + 1, none⟩ = some (.int .i64 m.fr) := fun q => F1 q 1 _ (by omega) rfl
    have a2 : ∀ q : Later wr, q.1.cell? ⟨b1, o1 + k * 14 + 2, none⟩ = some (.int .i64 m.tq) := fun q => F1 q 2 _ (by omega) rfl
    have a3 : ∀ q : Later wr, q.1.cell? ⟨b1, o1 + k * 14 + 3, none⟩ = some (.int .i64 m.tm) := fun q => F1 q 3 _ (by omega) rfl
    have a4 : ∀ q : Later wr, q.1.cell? ⟨b1, o1 + k * 14 + 4, none⟩ = some (.int .i64 m.ix) := fun q => F1 q 4 _ (by omega) rfl
    have a5 : ∀ q : Later wr, q.1.cell? ⟨b1, o1 + k * 14 + 5, none⟩ = some (.int .i64 m.lt) := fun q => F1 q 5 _ (by omega) rfl
    have a6 : ∀ q : Later wr, q.1.cell? ⟨b1, o1 + k * 14 + 6, none⟩ = some (.int .i64 m.cm) := fun q => F1 q 6 _ (by omega) rfl
    have a7 : ∀ q : Later wr, q.1.cell? ⟨b1, o1 + k * 14 + 7, none⟩ = some (.int .i64 m.rd) := fun q => F1 q 7 _ (by omega) rfl
    have a8 : ∀ q : Later wr, q.1.cell? ⟨b1, o1 + k * 14 + 8, none⟩ = some (.bool m.ok) := fun q => F1 q 8 _ (by omega) rfl
    have a9 : ∀ q : Later wr, q.1.cell? ⟨b1, o1 + k * 14 + 9, none⟩ = some (.bool false) := fun q => F1 q 9 _ (by omega) rfl
    have a10 : ∀ q : Later wr, q.1.cell? ⟨b1, o1 + k * 14 + 10, none⟩ = some (.slice pe m.en.length ce) := fun q => F1 q 10 _ (by omega) rfl
    have a11 : ∀ q : Later wr, q.1.cell? ⟨b1, o1 + k * 14 + 11, none⟩ = some (.slice none 0 0) := fun q => F1 q 11 _ (by omega) rfl
    have a12 : ∀ q : Later wr, q.1.cell? ⟨b1, o1 + k * 14 + 12, none⟩ = some (.int .i64 0) := fun q => F1 q 12 _ (by omega) rfl
    have a13 : ∀ q : Later wr, q.1.cell? ⟨b1, o1 + k * 14 + 13, none⟩ = some (.slice none 0 0) := fun q => F1 q 13 _ (by omega) rfl
    have c0 : ∀ q : Later wr, q.1.cell? ⟨b2, o2 + k * 14, none⟩ = some (.int .i64 m.kd) := fun q => F2 q 0 _ (by omega) rfl
    have c1 : ∀ q : Later wr, q.1.cell? ⟨b2, o2 + k * 14 + 1, none⟩ = some (.int .i64 m.fr) := fun q => F2 q 1 _ (by omega) rfl
    have c2 : ∀ q : Later wr, q.1.cell? ⟨b2, o2 + k * 14 + 2, none⟩ = some (.int .i64 m.tq) := fun q => F2 q 2 _ (by omega) rfl
    have c3 : ∀ q : Later wr, q.1.cell? ⟨b2, o2 + k * 14 + 3, none⟩ = some (.int .i64 m.tm) := fun q => F2 q 3 _ (by omega) rfl
    have c4 : ∀ q : Later wr, q.1.cell? ⟨b2, o2 + k * 14 + 4, none⟩ = some (.int .i64 m.ix) := fun q => F2 q 4 _ (by omega) rfl
    have c5 : ∀ q : Later wr, q.1.cell? ⟨b2, o2 + k * 14 + 5, none⟩ = some (.int .i64 m.lt) := fun q => F2 q 5 _ (by omega) rfl
    have c6 : ∀ q : Later wr, q.1.cell? ⟨b2, o2 + k * 14 + 6, none⟩ = some (.int .i64 m.cm) := fun q => F2 q 6 _ (by omega) rfl
    have c7 : ∀ q : Later wr, q.1.cell? ⟨b2, o2 + k * 14 + 7, none⟩ = some (.int .i64 m.rd) := fun q => F2 q 7 _ (by omega) rfl
    have c8 : ∀ q : Later wr, q.1.cell? ⟨b2, o2 + k * 14 + 8, none⟩ = some (.bool m.ok) := fun q => F2 q 8 _ (by omega) rfl
    have c9 : ∀ q : Later wr, q.1.cell? ⟨b2, o2 + k * 14 + 9, none⟩ = some (.bool false) := fun q => F2 q 9 _ (by omega) rfl
    have c10 : ∀ q : Later wr, q.1.cell? ⟨b2, o2 + k * 14 + 10, none⟩ = some (.slice pf m.en.length cf) := fun q => F2 q 10 _ (by omega) rfl
    have c11 : ∀ q : Later wr, q.1.cell? ⟨b2, o2 + k * 14 + 11, none⟩ = some (.slice none 0 0) := fun q => F2 q 11 _ (by omega) rfl
    have c12 : ∀ q : Later wr, q.1.cell? ⟨b2, o2 + k * 14 + 12, none⟩ = some (.int .i64 0) := fun q => F2 q 12 _ (by omega) rfl
    have c13 : ∀ q : Later wr, q.1.cell? ⟨b2, o2 + k * 14 + 13, none⟩ = some (.slice none 0 0) := fun q => F2 q 13 _ (by omega) rfl
    clear F1 F2
    have hkb : (k : Int) < (A.length : Int) := hI
    go_upto_region 6 with fail
    refine wp_region_later (by kernel_rfl) (by kernel_rfl) ?_
    repeat (go_big_quiet_step ((go_at_call 83; with_reducible exact Calls.later_of (HS.out _))))
    refine wpQuiet_nil ?_
    intro W9 hw'
    obtain ⟨⟨wq, hq⟩, hw''⟩ := hw'
    have hwe : W9 = wq := hw''
    clear hw''
    subst hwe
    have HB9 := Lib.hid (HBK.out.trans (hq.mono HBK.out.size))
    go_wp2
    go_roundw
    case rel => exact ⟨k + 1, by omega, by go_num, HB9⟩
    case measure => simp [intOf]; omega
end RF
end Go.Proofs.YtaodldagmmephaaGreat

