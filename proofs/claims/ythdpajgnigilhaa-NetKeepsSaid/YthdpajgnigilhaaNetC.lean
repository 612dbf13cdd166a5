/- net's channel: what it is made of. -/
import Derived.Test.YthdpajgnigilhaaNetS
import Derived.Test.YthdpajgnigilhaaSel
import Derived.BigQuiet
import Derived.Test.YthdpajgnigilhaaShelf
namespace Go.Proofs.Ythdpajgnigilhaa
open Go.RowKit Go.Conc

def pchan (cap s r : Nat) (buf : Array Value) : Obj := .chan cap buf false s r false
theorem zero_pkt : ∀ w, (zeroValue 34).run Try.prog w = .ok (pkv 0 0 ByteArray.empty) w := Try.zeroValue34
theorem bytes_pkt : ∃ i, Try.prog.info? 34 = some i ∧ i.bytes = 32 := by
  have h : (Try.prog.info? 34).map (fun i => i.bytes) = some 32 := by kernel_rfl
  cases hi : Try.prog.info? 34 with
  | none => rw [hi] at h; cases h
  | some i => rw [hi] at h; exact ⟨i, rfl, Option.some.inj h⟩
theorem make_pchan (w : World) : (Instr.makeChan 49 (.int .i64 1)).run Try.prog w = .ok (.chan (some w.heap.size)) (w.alloc (pchan 1 0 0 #[])) := by
  obtain ⟨i, hi, hb⟩ := bytes_pkt
  simpa [pchan] using run_makeChan (P := Try.prog) (w := w) Try.underlying49 hi .i64 1 (by omega) (by rw [hb]; omega)
end Go.Proofs.Ythdpajgnigilhaa
