/-
  So many lists: 1 at least, and 8 at most, all empty.
-/
import Derived.Test.YtfcfbfingnpnoaaAwake
import Derived.Deep.RegionLaw
set_option linter.unusedVariables false
set_option linter.unusedSimpArgs false
namespace Go.Proofs.Ytfcfbfingnpnoaa
open Go.RowKit

theorem make_run (w : World) (t e : TypeId) (i : TypeInfo) (z : Value) (size bytes : Nat) (P : Program) (ht : P.underlying t = some (.slice e)) (hi : P.info? e = some i) (hz : i.zero = some z) (hsize : i.size = size) (hby : i.bytes = bytes) (hzs : z.cells.size = size) (hsz : 0 < size)
    (n : Nat) (b2 : bytes * n ≤ 281474976710656) (b3 : n ≤ 9223372036854775807) :
    (Instr.makeSlice t (.int .i64 (n : Int)) (.int .i64 (n : Int))).run P w = .ok (.slice (some ⟨w.heap.size, 0, none⟩) n n) (w.alloc (.cells ((List.replicate n z.cells.toList).flatten).toArray e)) := by
  have hrun := run_make (P := P) w t e i z ht hi hz .i64 .i64 n n (by omega) (Int.le_refl _) (by rw [hby]; omega) (by omega)
  subst hsize
  simp only [Int.toNat_natCast] at hrun
  rw [← hzs, madeCells_flat _ (by omega)] at hrun
  exact hrun
theorem Try.info_sl32 : (Try.prog.info? 28).map (fun i => (i.zero, i.size, i.bytes)) = some (some (.slice none 0 0), 1, 24) := by kernel_rfl
theorem repl_one (n : Nat) (v : Value) : (List.replicate n [v]).flatten = List.replicate n v := by
  induction n with
  | zero => rfl
  | succ n ih => rw [List.replicate_succ, List.flatten_cons, ih, List.replicate_succ]; rfl

theorem ref3_New1 (w : World) : Calls Try.prog 12 #[.int .i64 1] w fun e w' =>
    e = .returned (.agg #[.int .i64 2, .int .i64 0, .slice none 0 0, .slice (some ⟨w.heap.size + 1, 0, none⟩) 1 1]) ∧ Below w.heap.size w w' := by
  have hmk : ∀ w : World, (Instr.makeSlice 29 (.int .i64 1) (.int .i64 1)).run Try.prog w = .ok (.slice (some ⟨w.heap.size, 0, none⟩) 1 1) (w.alloc (.cells #[.int .u64 0, .int .u64 0, .int .i64 0, .int .i64 0, .int .i32 0, .int .i32 0] 84)) := fun _ => by kernel_rfl
  go_enter Try.func12, Try.ntmps12
  go_wp2
  exact bodyPost_ret (v := .agg #[.int .i64 2, .int .i64 0, .slice none 0 0, .slice (some ⟨w.heap.size + 1, 0, none⟩) 1 1]) (by simp [results, Try.results12, go_sem]) rfl ⟨rfl, (by with_reducible repeat (first | exact Below.refl _ _ | assumption | refine Below.drew ?_ | refine Below.alloc ?_ (by simp; try omega) _ | refine Below.setCell ?_ (by simp; try omega) _ | refine pw_drewN ?_ _))⟩

def many4 (tags : Int) : Nat := (min (max tags 1) 8).toNat
set_option maxRecDepth 100000 in
set_option maxHeartbeats 800000 in
theorem ref4_New (x0 x1 : Int) (A2 A3 : Option Addr) (n2 c2 n3 c3 : Nat) (tags : Int) (w : World) : Calls Try.prog 11 #[.agg #[.int .i64 x0, .int .i64 x1, .slice A2 n2 c2, .slice A3 n3 c3], .int .i64 tags] w fun e w' =>
    e = .returned (.agg #[.int .i64 x0, .int .i64 x1, .slice A2 n2 c2, .slice A3 n3 c3, .slice (some ⟨w.heap.size + 2, 0, none⟩) (many4 tags) (many4 tags)]) ∧ Blk w' (w.heap.size + 2) (List.replicate (many4 tags) (Value.slice none 0 0)).toArray 28 ∧ Below w.heap.size w w' := by
  obtain ⟨i0, hi, hz0, hz1, hz2⟩ := info_parts Try.info_sl32
  obtain ⟨n, hn⟩ : ∃ n : Nat, n = many4 tags := ⟨_, rfl⟩
  have hN : n = (min (max tags 1) 8).toNat := hn
  rw [← hn]
  have hfin := (fun (W : World) (g : Nat) (hg : g = W.heap.size) => (Blk.new' W (List.replicate n (Value.slice none 0 0)).toArray 28 g hg))
  have HF := hid hfin
  clear hn hfin
  have hmk := fun w => make_run w 32 28 i0 _ 1 24 Try.prog Try.underlying32 hi hz0 hz1 hz2 rfl (by decide) n (by omega) (by omega)
  have e1 : (Value.slice none 0 0).cells.toList = [Value.slice none 0 0] := rfl
  rw [e1, repl_one] at hmk
  have h3 : 0 < n := by omega
  have h4 : n ≤ 8 := by omega
  by_cases h1 : tags < 1
  · obtain rfl : n = 1 := by omega
    clear hN
    have hmk1 : ∀ w : World, (Instr.makeSlice 32 (.int .i64 1) (.int .i64 1)).run Try.prog w = .ok (.slice (some ⟨w.heap.size, 0, none⟩) 1 1) (w.alloc (.cells (List.replicate 1 (Value.slice none 0 0)).toArray 28)) := hmk
    clear hmk
    go_enter Try.func11, Try.ntmps11
    go_wp2
    go_region
    go_wp2
    exact bodyPost_ret (v := .agg #[.int .i64 x0, .int .i64 x1, .slice A2 n2 c2, .slice A3 n3 c3, .slice (some ⟨w.heap.size + 2, 0, none⟩) 1 1]) (by simp [results, Try.results11, go_sem]) rfl ⟨rfl, HF.out _ _ (by simp), (by with_reducible repeat (first | exact Below.refl _ _ | assumption | refine Below.drew ?_ | refine Below.alloc ?_ (by simp; try omega) _ | refine Below.setCell ?_ (by simp; try omega) _ | refine pw_drewN ?_ _))⟩
  · by_cases h2 : tags ≤ 8
    · obtain ⟨m, rfl⟩ := Int.eq_ofNat_of_zero_le (show 0 ≤ tags by omega)
      obtain rfl : n = m := by omega
      clear hN
      have h5 : ¬ (8 < (n : Int)) := by omega
      go_enter Try.func11, Try.ntmps11
      go_wp2
      go_region
      go_wp2

      exact bodyPost_ret (v := .agg #[.int .i64 x0, .int .i64 x1, .slice A2 n2 c2, .slice A3 n3 c3, .slice (some ⟨w.heap.size + 2, 0, none⟩) n n]) (by simp [results, Try.results11, go_sem]) rfl ⟨rfl, HF.out _ _ (by simp), (by with_reducible repeat (first | exact Below.refl _ _ | assumption | refine Below.drew ?_ | refine Below.alloc ?_ (by simp; try omega) _ | refine Below.setCell ?_ (by simp; try omega) _ | refine pw_drewN ?_ _))⟩
    · obtain rfl : n = 8 := by omega
      clear hN
      have hmk1 : ∀ w : World, (Instr.makeSlice 32 (.int .i64 8) (.int .i64 8)).run Try.prog w = .ok (.slice (some ⟨w.heap.size, 0, none⟩) 8 8) (w.alloc (.cells (List.replicate 8 (Value.slice none 0 0)).toArray 28)) := hmk
      clear hmk
      go_enter Try.func11, Try.ntmps11
      go_wp2
      go_region
      go_wp2
      exact bodyPost_ret (v := .agg #[.int .i64 x0, .int .i64 x1, .slice A2 n2 c2, .slice A3 n3 c3, .slice (some ⟨w.heap.size + 2, 0, none⟩) 8 8]) (by simp [results, Try.results11, go_sem]) rfl ⟨rfl, HF.out _ _ (by simp), (by with_reducible repeat (first | exact Below.refl _ _ | assumption | refine Below.drew ?_ | refine Below.alloc ?_ (by simp; try omega) _ | refine Below.setCell ?_ (by simp; try omega) _ | refine pw_drewN ?_ _))⟩


/-- The arena of one slot, taken. -/
def nw1 : Arn := { Arn.new 1 with slots := (Arn.new 1).slots.set (Arn.new 1).next ⟨Nd.zero, true⟩, next := (Arn.new 1).next + 1, live := (Arn.new 1).live + 1 }
theorem nw_len (tags : Int) : (Lst.new nw1 tags).ls.length = many4 tags := by simp [Lst.new, many4]
theorem nw_get {tags tag : Int} {l : L3} (h : (Lst.new nw1 tags).get tag = some l) : l = L3.zero := by
  have := (Lst.get_some h).2.2
  exact (List.mem_replicate.1 (List.mem_of_getElem? this)).2
theorem nw_isSome (tags tag : Int) : ((Lst.new nw1 tags).get tag).isSome = decide (0 ≤ tag ∧ tag < (many4 tags : Int)) := by
  have hl := nw_len tags
  by_cases h : 0 ≤ tag
  · have hg : (Lst.new nw1 tags).get tag = (Lst.new nw1 tags).ls[tag.toNat]? := by simp [Lst.get, h]
    rw [hg]
    by_cases h2 : tag < (many4 tags : Int)
    · rw [List.getElem?_eq_getElem (by omega)]
      simp [h, h2]
    · rw [List.getElem?_eq_none (by omega)]
      simp [h2]
  · simp [Lst.get, h]
theorem nw_len0 (tags tag : Int) : (Lst.new nw1 tags).len tag = 0 := by
  unfold Lst.len
  split
  · rename_i l h
    rw [nw_get h]; rfl
  · rfl
theorem nw_front (tags tag : Int) : (Lst.new nw1 tags).front tag = 0 := by
  unfold Lst.front
  split
  · rename_i l h
    rw [nw_get h]; rfl
  · rfl
theorem nw_at (i : Int) : nw1.at_ i = Nd.zero := by
  unfold Arn.at_
  split
  · rename_i h
    obtain ⟨h1, h2, h3⟩ := Arn.is_lt h
    have h4 : i < 2 := by simpa [nw1, Arn.new] using h2
    obtain rfl : i = 1 := by omega
    rfl
  · rfl
theorem nw_tag (tags i : Int) : (Lst.new nw1 tags).tag i = -1 := by
  show (nw1.at_ i).tag - 1 = -1
  rw [nw_at]; rfl
theorem nw_wf (tags : Int) : (Lst.new nw1 tags).wf := by
  refine ⟨fun s hs => ?_, fun l hl => ?_⟩
  · have : ∀ s ∈ nw1.slots, s.n.wfB = true := by decide
    have := this s hs
    unfold Nd.wfB at this
    simp only [Bool.and_eq_true, decide_eq_true_eq] at this
    exact ⟨this.1.1.1, this.1.1.2, i32_of this.1.2, i32_of this.2⟩
  · rw [(List.mem_replicate.1 hl).2]
    exact ⟨i32_zero, i32_zero, by decide⟩
theorem nw_may (tags tag : Int) : (Lst.new nw1 tags).may tag 1 = decide (0 ≤ tag ∧ tag < (many4 tags : Int)) := by
  unfold Lst.may
  rw [nw_isSome, nw_tag, show (Lst.new nw1 tags).A.is 1 = true from rfl]
  simp
theorem field_L (x0 x1 : Int) (A2 A3 A4 : Option Addr) (n2 c2 n3 c3 n4 c4 : Nat) (w : World) : (Instr.field 34 (.agg #[.int .i64 x0, .int .i64 x1, .slice A2 n2 c2, .slice A3 n3 c3, .slice A4 n4 c4]) 1).run Try.prog w = .ok (.slice A4 n4 c4) w := by kernel_rfl

section
variable {W : World} {B ga gl gll : Nat} {tags : Int}
theorem nwk2 (h : ArenaIs W B ga (Arn.new 1)) : Calls Try.prog 9 #[.pointer (some ⟨ga, 0, none⟩)] W fun e w' => e = .returned (.int .i32 1) ∧ ArenaIs w' B ga nw1 ∧ KT B [57, 62] W w' := arena_Alloc_next h rfl (by decide) (by decide)
theorem nwkL (h : ListsAt W B gl ga gll (Lst.new nw1 tags)) (tag : Int) : Calls Try.prog 13 #[.pointer (some ⟨gl, 0, none⟩), .int .i64 tag] W fun e w' => e = .returned (.int .i64 0) ∧ W = w' := by
  have := ilist_Len h tag
  rw [nw_len0] at this
  exact this
theorem nwkF (h : ListsAt W B gl ga gll (Lst.new nw1 tags)) (tag : Int) : Calls Try.prog 14 #[.pointer (some ⟨gl, 0, none⟩), .int .i64 tag] W fun e w' => e = .returned (.int .i32 0) ∧ W = w' := by
  have := ilist_Front h tag
  rw [nw_front] at this
  exact this
theorem nwkT (h : ListsAt W B gl ga gll (Lst.new nw1 tags)) (i : Int) (hi : I32 i) : Calls Try.prog 16 #[.pointer (some ⟨gl, 0, none⟩), .int .i32 i] W fun e w' => e = .returned (.int .i64 (-1)) ∧ Below W.heap.size W w' := by
  have := ilist_Tag h (nw_wf tags).nodes i hi
  rw [nw_tag] at this
  exact this
theorem nwkA (h : ListsAt W B gl ga gll (Lst.new nw1 tags)) (tag : Int) : Calls Try.prog 15 #[.pointer (some ⟨gl, 0, none⟩), .int .i64 tag] W fun e w' => ∃ A c, e = .returned (.slice A 0 c) ∧ Below W.heap.size W w' := by
  refine (lists_All h (nw_wf tags) tag [] (by rw [nw_front]; rfl) (by simp)).mono ?_
  rintro e w' ⟨v, rfl, hr, k⟩
  obtain ⟨A1, c1, hv, _, _⟩ := hr.slice
  exact ⟨A1, c1, by rw [hv]; rfl, k⟩
theorem nwkP (h : ListsAt W B gl ga gll (Lst.new nw1 tags)) (hB : B ≤ W.heap.size) (tag : Int) : Calls Try.prog 17 #[.pointer (some ⟨gl, 0, none⟩), .int .i64 tag, .int .i32 1] W fun e w' => e = .returned (.bool (decide (0 ≤ tag ∧ tag < (many4 tags : Int)))) ∧ KT B [62, 69] W w' := by
  have := ilist_PushFront h hB (nw_wf tags) tag 1 i1
  rw [nw_may] at this
  exact this.mono fun e w' ⟨h1, h2, h3⟩ => ⟨h1, h3⟩
end

attribute [local go_sem] field_L
set_option maxRecDepth 100000 in
set_option maxHeartbeats 4000000 in
theorem walk_IlistNew (a0 a1 a2 : Int) (hi : I32 a2) (w : World) :
    Calls Try.prog 3 #[.int .i64 a0, .int .i64 a1, .int .i32 a2] w fun e w' => e = .returned (.bool true) ∧ Below w.heap.size w w' := by
  have HI := hid hi
  clear hi
  by_cases hc : 0 ≤ a1
  · have hdec : (decide (a1 < (many4 a0 : Int)) == decide (0 ≤ a1 ∧ a1 < (many4 a0 : Int))) = true := by simp [hc]
    have HD := hid hdec
    clear hdec
    go_enter Try.func3, Try.ntmps3
    go_wp2_with fail
    go_must (refine (law_awake w).mono ?_)
    rintro e w0 ⟨rfl, k0⟩
    have K0 := hid (KT.of_below k0 w.heap.size [57, 62, 69])
    clear k0
    go_wp2_with fail
    go_must (refine (arena_New w.heap.size K0.out.size 1 (by omega) (by omega)).mono ?_)
    rintro e w1 ⟨ga, rfl, h1, k1, _⟩
    have H1 := hid h1
    have K1 := hid (K0.out.trans (KT.of_below k1 w.heap.size [57, 62, 69]) (Nat.le_refl _) (by simp))
    clear h1 k1
    go_wp2_with fail
    go_must (refine (nwk2 H1.out).mono ?_)
    rintro e w2 ⟨rfl, h2, k2⟩
    have H2 := hid h2
    have K2 := hid (K1.out.trans k2 (Nat.le_refl _) (by simp))
    clear h2 k2
    go_wp2_with fail
    go_must (refine (ilist_New H2.out K2.out.size a0).mono ?_)
    rintro e w4 ⟨gl, gll, rfl, h4, k4, _⟩
    have H4 := hid h4
    have K4 := hid (K2.out.trans (KT.of_below k4 w.heap.size [57, 62, 69]) (Nat.le_refl _) (by simp))
    clear h4 k4
    go_wp2_with fail
    go_must (refine (ref3_New1 w4).mono ?_)
    rintro e w5 ⟨rfl, k5⟩
    have H5 := hid (H4.out.keep k5)
    have K5 := hid (K4.out.trans (KT.of_below k5 w.heap.size [57]) (Nat.le_refl _) (by simp))
    clear k5
    go_wp2_with fail
    go_must (refine (ref4_New _ _ _ _ _ _ _ _ a0 w5).mono ?_)
    rintro e w6 ⟨rfl, _, k6⟩
    have H6 := hid (H5.out.keep k6)
    have K6 := hid (K5.out.trans (KT.of_below k6 w.heap.size [57]) (Nat.le_refl _) (by simp))
    clear k6
    go_wp2_with fail
    go_must (refine (nwkL H6.out a1).mono ?_)
    rintro e w' ⟨rfl, rfl⟩
    go_wp2_with fail
    go_must (refine (nwkF H6.out a1).mono ?_)
    rintro e w' ⟨rfl, rfl⟩
    go_wp2_with fail
    go_must (refine (nwkA H6.out a1).mono ?_)
    rintro e w7 ⟨A7, c7, rfl, k7⟩
    have H7 := hid (H6.out.keep k7)
    have K7 := hid (K6.out.trans (KT.of_below k7 w.heap.size [57]) (Nat.le_refl _) (by simp))
    clear k7
    go_wp2_with fail
    go_must (refine (nwkT H7.out a2 HI.out).mono ?_)
    rintro e w8 ⟨rfl, k8⟩
    have H8 := hid (H7.out.keep k8)
    have K8 := hid (K7.out.trans (KT.of_below k8 w.heap.size [57]) (Nat.le_refl _) (by simp))
    clear k8
    go_wp2_with fail
    go_must (refine (nwkP H8.out K8.out.size a1).mono ?_)
    rintro e w9 ⟨rfl, k9⟩
    have K9 := hid (K8.out.trans k9 (Nat.le_refl _) (by simp))
    clear k9
    go_wp2
    go_ret
    exact ⟨by first | rfl | (rw [HD.out]) | (have := HD.out; simp_all), K9.out.below (Nat.le_refl _)⟩
  · have hc2 : (0 ≤ a1 ∧ a1 < (many4 a0 : Int)) = False := by simp [hc]
    have HC := hid hc2
    clear hc2
    go_enter Try.func3, Try.ntmps3
    go_wp2_with fail
    go_must (refine (law_awake w).mono ?_)
    rintro e w0 ⟨rfl, k0⟩
    have K0 := hid (KT.of_below k0 w.heap.size [57, 62, 69])
    clear k0
    go_wp2_with fail
    go_must (refine (arena_New w.heap.size K0.out.size 1 (by omega) (by omega)).mono ?_)
    rintro e w1 ⟨ga, rfl, h1, k1, _⟩
    have H1 := hid h1
    have K1 := hid (K0.out.trans (KT.of_below k1 w.heap.size [57, 62, 69]) (Nat.le_refl _) (by simp))
    clear h1 k1
    go_wp2_with fail
    go_must (refine (nwk2 H1.out).mono ?_)
    rintro e w2 ⟨rfl, h2, k2⟩
    have H2 := hid h2
    have K2 := hid (K1.out.trans k2 (Nat.le_refl _) (by simp))
    clear h2 k2
    go_wp2_with fail
    go_must (refine (ilist_New H2.out K2.out.size a0).mono ?_)
    rintro e w4 ⟨gl, gll, rfl, h4, k4, _⟩
    have H6 := hid h4
    have K6 := hid (K2.out.trans (KT.of_below k4 w.heap.size [57, 62, 69]) (Nat.le_refl _) (by simp))
    clear h4 k4
    go_wp2_with fail
    go_must (refine (nwkL H6.out a1).mono ?_)
    rintro e w' ⟨rfl, rfl⟩
    go_wp2_with fail
    go_must (refine (nwkF H6.out a1).mono ?_)
    rintro e w' ⟨rfl, rfl⟩
    go_wp2_with fail
    go_must (refine (nwkA H6.out a1).mono ?_)
    rintro e w7 ⟨A7, c7, rfl, k7⟩
    have H7 := hid (H6.out.keep k7)
    have K7 := hid (K6.out.trans (KT.of_below k7 w.heap.size [57]) (Nat.le_refl _) (by simp))
    clear k7
    go_wp2_with fail
    go_must (refine (nwkT H7.out a2 HI.out).mono ?_)
    rintro e w8 ⟨rfl, k8⟩
    have H8 := hid (H7.out.keep k8)
    have K8 := hid (K7.out.trans (KT.of_below k8 w.heap.size [57]) (Nat.le_refl _) (by simp))
    clear k8
    go_wp2_with fail
    go_must (refine (nwkP H8.out K8.out.size a1).mono ?_)
    rintro e w9 ⟨rfl, k9⟩
    have K9 := hid (K8.out.trans k9 (Nat.le_refl _) (by simp))
    clear k9
    go_wp2
    go_ret
    exact ⟨by first | rfl | (have := HC.out; simp_all), K9.out.below (Nat.le_refl _)⟩

theorem i32_wide {n : Int} (h : (Lit.int .i32 n).wf = true) : I32 n := by
  simp [Lit.wf, IntKind.min, IntKind.max, IntKind.signed, IntKind.bits] at h
  exact h

end Go.Proofs.Ytfcfbfingnpnoaa
