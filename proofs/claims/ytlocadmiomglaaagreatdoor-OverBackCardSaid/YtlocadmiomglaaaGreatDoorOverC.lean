/- Chapter 10: Make and Drop of a pager with no free pages, as calls. -/
import Derived.Test.YtlocadmiomglaaaGreatDoorOverL
import Derived.Test.YtlocadmiomglaaaGreatDoorGMakeW
namespace Go.Proofs.YtlocadmiomglaaaGreatDoor
open Go.RowKit Go.Maps Go.Conc

section
variable {pb base : Nat} {s : PgS} {U : Nat → Prop} {w w' : World} {m k : Nat}

theorem OvJ.seals (hJ : OvJ m k s) (hm : m ≤ 3000) {n : Int} {b : ByteArray} (h1 : 0 ≤ n) (h2 : n < 4294967296) (hb : b.size ≤ 240) : sealCode (nextOf s) n 4 b = 0 := by
  obtain ⟨h3, h4, _⟩ := hJ.next
  unfold sealCode
  rw [if_neg (by simp only [Classical.not_not]; exact ⟨by omega, by omega, h1, h2, by omega, by omega⟩), if_neg (by omega)]

theorem ov_make_full (h : Pg pb base s U w) (hJ : OvJ m k s) (hm : m ≤ 3000) (hk : k < 1000000) {n : Int} {b : ByteArray} (h1 : 0 ≤ n) (h2 : n < 4294967296) (hb : b.size ≤ 240) (hr : room m s = 0) :
    Calls Tryz.prog 24 #[.pointer (some ⟨pb, 0, none⟩), .agg #[.int .i64 4, .int .i64 n, .string b]] w fun e w' => e = .returned (.tuple #[.int .i64 0, .int .i64 10]) ∧ ∃ U', Pg pb base s U' w' ∧ Step U U' w w' := by
  have hn := hJ.next
  have h3 := hJ.nm
  refine (pg_make 4 n b h (by rw [hJ.most]; exact Int.ofNat_le.2 hJ.nwm) (by rw [hJ.most]; omega) hJ.nwp (int_wf (by omega) (by omega)) (by omega) (by omega)).mono ?_
  rintro e w' ⟨s', U', hM, hP, hS⟩
  rcases hJ.make (hJ.seals hm h1 h2 hb) hM with ⟨_, he, rfl⟩ | ⟨h9, _⟩
  · exact ⟨he, U', hP, hS⟩
  · omega

theorem ov_make_ok (h : Pg pb base s U w) (hJ : OvJ m k s) (hm : m ≤ 3000) (hk : k < 1000000) {n : Int} {b : ByteArray} (h1 : 0 ≤ n) (h2 : n < 4294967296) (hb : b.size ≤ 240) (hr : 0 < room m s) :
    Calls Tryz.prog 24 #[.pointer (some ⟨pb, 0, none⟩), .agg #[.int .i64 4, .int .i64 n, .string b]] w fun e w' => e = .returned (.tuple #[.int .i64 (nextOf s), .int .i64 0]) ∧
      ∃ s' U', OvJ m (k + 1) s' ∧ s'.A = (nextOf s, pgv 4 n b) :: s.A ∧ room m s' + 1 = room m s ∧ (s.sp ≠ [] → s'.pages = s.pages) ∧ s'.sp.length = s.sp.length - 1 ∧ Pg pb base s' U' w' ∧ Step U U' w w' := by
  have hn := hJ.next
  have h3 := hJ.nm
  refine (pg_make 4 n b h (by rw [hJ.most]; exact Int.ofNat_le.2 hJ.nwm) (by rw [hJ.most]; omega) hJ.nwp (int_wf (by omega) (by omega)) (by omega) (by omega)).mono ?_
  rintro e w' ⟨s', U', hM, hP, hS⟩
  rcases hJ.make (hJ.seals hm h1 h2 hb) hM with ⟨h9, _⟩ | ⟨_, he, hJ', hA, hR, _, hp, hsp⟩
  · omega
  · exact ⟨he, s', U', hJ', hA, hR, hp, hsp, hP, hS⟩

theorem ov_drop (h : Pg pb base s U w) (hJ : OvJ m k s) (hm : m ≤ 3000) (hk : k < 1000000) {id : Int} (hid : id ∈ kys s) :
    Calls Tryz.prog 35 #[.pointer (some ⟨pb, 0, none⟩), .int .i64 id] w fun e w' => e = .returned (.int .i64 0) ∧
      ∃ s' U', OvJ m (k + 1) s' ∧ s'.A = ridA id s.A ∧ s'.pages = s.pages ∧ s'.sp.length = s.sp.length + 1 ∧ s'.W = id :: rid id s.W ∧ Pg pb base s' U' w' ∧ Step U U' w w' := by
  obtain ⟨h2, hp⟩ := hJ.keys _ hid
  have h3 := hJ.nwp
  have h4 := hJ.nwm
  have h5 := hJ.cnt
  have h6 := hJ.nm
  refine (pg_drop_own id h (int_wf (by omega) (by omega)) h2 hp hJ.pg hid (by rw [hJ.l]; simp) (by omega) (by omega)).mono ?_
  rintro e w' ⟨he, s', U', hD, hP, hS⟩
  obtain ⟨hJ', hA, hpg, hsp, hW⟩ := hJ.drop hid hD
  exact ⟨he, s', U', hJ', hA, hpg, hsp, hW, hP, hS⟩
end
end Go.Proofs.YtlocadmiomglaaaGreatDoor
