/-
  A slice of acts, opened at every index.
-/
import Derived.Test.YtfcfbfingnpnoaaLawRound
import Derived.Deep.Strs
import Derived.Deep.Slices
import Derived.ChangeOld
set_option linter.unusedVariables false
namespace Go.Proofs.Ytfcfbfingnpnoaa
open Go.ChangeShapes Go.WideShapes Go.RowKit Go.Deep

theorem one_of {cs : List Value} {c : Value} (h : cs = [c]) : cs[0]? = some c := by rw [h]; rfl
theorem drop1 {cs : List Value} {v : Value} {o : Nat} (h : (cs.drop o).take 1 = [v]) : cs[o]? = some v := by
  have := congrArg (fun l => l[0]?) h
  simpa using this
theorem u8_wide {n : Int} (h : (Lit.int .u8 n).wf = true) : ∃ k : Nat, n = k ∧ k ≤ 255 := by
  simp [Lit.wf, IntKind.min, IntKind.max, IntKind.signed, IntKind.bits] at h
  obtain ⟨k, rfl⟩ := Int.eq_ofNat_of_zero_le h.1
  exact ⟨k, rfl, by omega⟩
theorem open_acts {H : Type} {enc : TypeId × Value → H} {w : World} {spare : Nat → Bool} {held : Bool} {a : Option Addr} {n c : Nat} {d : DataW H} {ps : List MemPlace}
    (hsp : ∀ b, spare b = true) (h : DataW.Trod enc Try.prog w 0 spare held 45 (.slice a n c) d ps) : ∃ K T I, ActsAt w a n K T I := by
  obtain ⟨fuel, hf⟩ := h
  rcases open_slice Try.underlying45 hf with ⟨hcs, _⟩ | ⟨x, l, c', m, f, D, Pl, hcs, _, hl, hm, hmm, _, hel⟩
  · simp [Value.cells] at hcs
    obtain ⟨rfl, rfl, rfl⟩ := hcs
    exact ⟨fun _ => 0, fun _ => 0, fun _ => 0, fun k hk => absurd hk (Nat.not_lt_zero _)⟩
  · simp [Value.cells] at hcs
    obtain ⟨rfl, rfl, rfl⟩ := hcs
    have hce : Try.prog.cellsOf 50 = 3 := by kernel_rfl
    have key : ∀ i, i < n → ∃ y : Nat × Int × Int, w.cell? (x.add (i * 3)) = some (.int .u8 y.1) ∧ w.cell? (x.add (i * 3 + 1)) = some (.int .i64 y.2.1) ∧ w.cell? (x.add (i * 3 + 2)) = some (.int .i32 y.2.2) ∧ y.1 ≤ 255 ∧ I32 y.2.2 := by
      intro i hi
      obtain ⟨cs', hc, ht⟩ := hel i (by rw [hmm, hsp]; simp; omega)
      rw [hce] at hc
      obtain ⟨_, hlen, hcell⟩ := World.cells?_some hc
      obtain ⟨y0, y1, y2, f', _, _, t0, t1, t2⟩ := trod_struct3 Try.underlying50 ht
      obtain ⟨n0, e0, _, w0⟩ := DataW.trod_int Try.underlying5 t0
      obtain ⟨n1, e1, _, w1⟩ := DataW.trod_int Try.underlying3 t1
      obtain ⟨n2, e2, _, w2⟩ := DataW.trod_int Try.underlying21 t2
      obtain ⟨k, rfl, hk⟩ := u8_wide w0
      refine ⟨(k, n1, n2), ?_, ?_, ?_, hk, i32_wide w2⟩
      · have := hcell 0 (by omega)
        rw [add_add, Nat.add_zero] at this
        rw [this]
        exact drop1 e0
      · have := hcell 1 (by omega)
        rw [add_add] at this
        rw [this]
        exact drop1 e1
      · have := hcell 2 (by omega)
        rw [add_add] at this
        rw [this]
        exact drop1 e2
    obtain ⟨f, hf2⟩ := choose_lt key
    exact ⟨fun i => (f i).1, fun i => (f i).2.1, fun i => (f i).2.2, fun k hk => ⟨x, rfl, hf2 k hk⟩⟩

end Go.Proofs.Ytfcfbfingnpnoaa
