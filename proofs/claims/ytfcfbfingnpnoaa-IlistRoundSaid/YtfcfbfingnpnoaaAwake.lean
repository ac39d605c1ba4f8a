/-
  Layer 4's statements: what is awake.
-/
import Derived.Test.YtfcfbfingnpnoaaIlistN
set_option linter.unusedVariables false
set_option linter.unusedSimpArgs false
namespace Go.Proofs.Ytfcfbfingnpnoaa
open Go.RowKit

def i32B (i : Int) : Bool := decide (-2147483648 ≤ i) && decide (i ≤ 2147483647)
theorem i32_of {i : Int} (h : i32B i = true) : I32 i := by
  unfold i32B at h
  simp only [Bool.and_eq_true, decide_eq_true_eq] at h
  exact h
def Nd.wfB (n : Nd) : Bool := decide (0 ≤ n.tag) && decide (n.tag ≤ 100) && i32B n.prev && i32B n.next
def Lst.wfB (S : Lst) : Bool := (S.A.slots.all fun s => s.n.wfB) && S.ls.all fun l => i32B l.front && i32B l.back && decide (l.many ≤ 1000000)
theorem Lst.wf_of {S : Lst} (h : S.wfB = true) : S.wf := by
  unfold Lst.wfB at h
  simp only [Bool.and_eq_true, List.all_eq_true, decide_eq_true_eq] at h
  refine ⟨fun s hs => ?_, fun l hl => ?_⟩
  · have := h.1 s hs
    unfold Nd.wfB at this
    simp only [Bool.and_eq_true, decide_eq_true_eq] at this
    exact ⟨this.1.1.1, this.1.1.2, i32_of this.1.2, i32_of this.2⟩
  · have := h.2 l hl
    exact ⟨i32_of this.1.1, i32_of this.1.2, this.2⟩

def aw0 : Arn := Arn.new 4
def aw1 : Arn := { aw0 with slots := aw0.slots.set aw0.next ⟨Nd.zero, true⟩, next := aw0.next + 1, live := aw0.live + 1 }
def aw2 : Arn := { aw1 with slots := aw1.slots.set aw1.next ⟨Nd.zero, true⟩, next := aw1.next + 1, live := aw1.live + 1 }
def aw3 : Lst := Lst.new aw2 2
def aw4 : Lst := aw3.lay 0 0 2 (aw3.front 0)
def aw5 : Lst := aw4.lay 0 0 1 (aw4.front 0)
def aw6 : Lst := aw5.moved 1 2
def aw7 : Lst := aw6.lay 0 (aw6.back 0) 2 0
def aw8 : Lst := aw7.remove 1
theorem aw3_wf : aw3.wf := Lst.wf_of (by decide)
theorem aw4_wf : aw4.wf := Lst.wf_of (by decide)
theorem aw5_wf : aw5.wf := Lst.wf_of (by decide)
theorem aw5r_wf : (aw5.remove 2).wf := Lst.wf_of (by decide)
theorem aw6_wf : aw6.wf := Lst.wf_of (by decide)
theorem aw7_wf : aw7.wf := Lst.wf_of (by decide)
theorem aw8_wf : aw8.wf := Lst.wf_of (by decide)
theorem i1 : I32 1 := i32_of (by decide)
theorem i2 : I32 2 := i32_of (by decide)

section
variable {W : World} {B ga gl gll : Nat}
theorem awk1 (h : ArenaIs W B ga aw0) : Calls Try.prog 9 #[.pointer (some ⟨ga, 0, none⟩)] W fun e w' => e = .returned (.int .i32 1) ∧ ArenaIs w' B ga aw1 ∧ KT B [57, 62] W w' := arena_Alloc_next h rfl (by decide) (by decide)
theorem awk2 (h : ArenaIs W B ga aw1) : Calls Try.prog 9 #[.pointer (some ⟨ga, 0, none⟩)] W fun e w' => e = .returned (.int .i32 2) ∧ ArenaIs w' B ga aw2 ∧ KT B [57, 62] W w' := arena_Alloc_next h rfl (by decide) (by decide)
theorem awk4 (h : ListsAt W B gl ga gll aw3) (hB : B ≤ W.heap.size) : Calls Try.prog 17 #[.pointer (some ⟨gl, 0, none⟩), .int .i64 0, .int .i32 2] W fun e w' => e = .returned (.bool true) ∧ ListsAt w' B gl ga gll aw4 ∧ KT B [62, 69] W w' := by
  have := ilist_PushFront h hB aw3_wf 0 2 i2
  rw [show aw3.may 0 2 = true by decide] at this
  exact this
theorem awk5 (h : ListsAt W B gl ga gll aw4) (hB : B ≤ W.heap.size) : Calls Try.prog 17 #[.pointer (some ⟨gl, 0, none⟩), .int .i64 0, .int .i32 1] W fun e w' => e = .returned (.bool true) ∧ ListsAt w' B gl ga gll aw5 ∧ KT B [62, 69] W w' := by
  have := ilist_PushFront h hB aw4_wf 0 1 i1
  rw [show aw4.may 0 1 = true by decide] at this
  exact this
theorem awk6 (h : ListsAt W B gl ga gll aw5) (hB : B ≤ W.heap.size) : Calls Try.prog 20 #[.pointer (some ⟨gl, 0, none⟩), .int .i64 1, .int .i32 2] W fun e w' => e = .returned (.bool true) ∧ ListsAt w' B gl ga gll aw6 ∧ KT B [62, 69] W w' := by
  have := ilist_MoveFront h hB aw5_wf 1 2 i2 (fun _ => by decide) aw5r_wf
  rw [show aw5.mayMove 1 2 = true by decide] at this
  exact this
theorem awk7 (h : ListsAt W B gl ga gll aw6) (hB : B ≤ W.heap.size) : Calls Try.prog 18 #[.pointer (some ⟨gl, 0, none⟩), .int .i64 0, .int .i32 2] W fun e w' => e = .returned (.bool false) ∧ ListsAt w' B gl ga gll aw7 ∧ KT B [62, 69] W w' := by
  have := ilist_PushBack h hB aw6_wf 0 2 i2
  rw [show aw6.may 0 2 = false by decide] at this
  exact this
theorem awk8 (h : ListsAt W B gl ga gll aw7) (hB : B ≤ W.heap.size) : Calls Try.prog 19 #[.pointer (some ⟨gl, 0, none⟩), .int .i32 1] W fun e w' => e = .returned (.bool true) ∧ ListsAt w' B gl ga gll aw8 ∧ KT B [62, 69] W w' := by
  have := ilist_Remove h hB aw7_wf 1 i1 (fun _ => by decide)
  rw [show aw7.isIn 1 = true by decide] at this
  exact this
theorem awkF (h : ListsAt W B gl ga gll aw6) : Calls Try.prog 14 #[.pointer (some ⟨gl, 0, none⟩), .int .i64 0] W fun e w' => e = .returned (.int .i32 1) ∧ W = w' := by
  have := ilist_Front h 0
  rw [show aw6.front 0 = 1 by decide] at this
  exact this
theorem awkB (h : ListsAt W B gl ga gll aw6) : Calls Try.prog 21 #[.pointer (some ⟨gl, 0, none⟩), .int .i64 0] W fun e w' => e = .returned (.int .i32 1) ∧ W = w' := by
  have := ilist_Back h 0
  rw [show aw6.back 0 = 1 by decide] at this
  exact this
theorem awkT (h : ListsAt W B gl ga gll aw6) : Calls Try.prog 16 #[.pointer (some ⟨gl, 0, none⟩), .int .i32 2] W fun e w' => e = .returned (.int .i64 1) ∧ Below W.heap.size W w' := by
  have := ilist_Tag h aw6_wf.nodes 2 i2
  rw [show aw6.tag 2 = 1 by decide] at this
  exact this
theorem awkL (h : ListsAt W B gl ga gll aw6) : Calls Try.prog 13 #[.pointer (some ⟨gl, 0, none⟩), .int .i64 1] W fun e w' => e = .returned (.int .i64 1) ∧ W = w' := by
  have := ilist_Len h 1
  rw [show aw6.len 1 = 1 by decide] at this
  exact this
theorem awkU (h : ListsAt W B gl ga gll aw8) : Calls Try.prog 16 #[.pointer (some ⟨gl, 0, none⟩), .int .i32 1] W fun e w' => e = .returned (.int .i64 (-1)) ∧ Below W.heap.size W w' := by
  have := ilist_Tag h aw8_wf.nodes 1 i1
  rw [show aw8.tag 1 = -1 by decide] at this
  exact this
end

set_option maxRecDepth 100000 in
set_option maxHeartbeats 4000000 in
theorem law_awake (w : World) : Calls Try.prog 7 #[] w fun e w' => e = .returned (.bool true) ∧ Below w.heap.size w w' := by
  go_enter Try.func7, Try.ntmps7
  go_wp2_with fail
  go_must (refine (arena_New w.heap.size (Nat.le_refl _) 4 (by omega) (by omega)).mono ?_)
  rintro e w1 ⟨ga, rfl, h1, k1, _⟩
  have H1 := hid h1
  have K1 := hid (KT.of_below k1 w.heap.size [57, 62, 69])
  clear h1 k1
  go_wp2_with fail
  go_must (refine (awk1 H1.out).mono ?_)
  rintro e w2 ⟨rfl, h2, k2⟩
  have H2 := hid h2
  have K2 := hid (K1.out.trans k2 (Nat.le_refl _) (by simp))
  clear h2 k2
  go_wp2_with fail
  go_must (refine (awk2 H2.out).mono ?_)
  rintro e w3 ⟨rfl, h3, k3⟩
  have H3 := hid h3
  have K3 := hid (K2.out.trans k3 (Nat.le_refl _) (by simp))
  clear h3 k3
  go_wp2_with fail
  go_must (refine (ilist_New H3.out K3.out.size 2).mono ?_)
  rintro e w4 ⟨gl, gll, rfl, h4, k4, _⟩
  have H4 : Hid (ListsAt w4 w.heap.size gl ga gll aw3) := h4
  have K4 := hid (K3.out.trans (KT.of_below k4 w.heap.size [57, 62, 69]) (Nat.le_refl _) (by simp))
  clear h4 k4
  go_wp2_with fail
  go_must (refine (awk4 H4.out K4.out.size).mono ?_)
  rintro e w5 ⟨rfl, h5, k5⟩
  have H5 := hid h5
  have K5 := hid (K4.out.trans k5 (Nat.le_refl _) (by simp))
  clear h5 k5
  go_wp2_with fail
  go_must (refine (awk5 H5.out K5.out.size).mono ?_)
  rintro e w6 ⟨rfl, h6, k6⟩
  have H6 := hid h6
  have K6 := hid (K5.out.trans k6 (Nat.le_refl _) (by simp))
  clear h6 k6
  go_wp2_with fail
  go_must (refine (awk6 H6.out K6.out.size).mono ?_)
  rintro e w7 ⟨rfl, h7, k7⟩
  have H7 := hid h7
  have K7 := hid (K6.out.trans k7 (Nat.le_refl _) (by simp))
  clear h7 k7
  go_wp2_with fail
  go_must (refine (awkF H7.out).mono ?_)
  rintro e w8 ⟨rfl, rfl⟩
  go_wp2_with fail
  go_must (refine (awkB H7.out).mono ?_)
  rintro e w8 ⟨rfl, rfl⟩
  go_wp2_with fail
  go_must (refine (awkT H7.out).mono ?_)
  rintro e w8 ⟨rfl, k8⟩
  have H8 := hid (H7.out.keep k8)
  have K8 := hid (K7.out.trans (KT.of_below k8 w.heap.size [57]) (Nat.le_refl _) (by simp))
  clear k8
  go_wp2_with fail
  go_must (refine (awkL H8.out).mono ?_)
  rintro e w9 ⟨rfl, rfl⟩
  go_wp2_with fail
  go_must (refine (awk7 H8.out K8.out.size).mono ?_)
  rintro e w9 ⟨rfl, h9, k9⟩
  have H9 := hid h9
  have K9 := hid (K8.out.trans k9 (Nat.le_refl _) (by simp))
  clear h9 k9
  go_wp2_with fail
  go_must (refine (awk8 H9.out K9.out.size).mono ?_)
  rintro e w10 ⟨rfl, h10, k10⟩
  have H10 := hid h10
  have K10 := hid (K9.out.trans k10 (Nat.le_refl _) (by simp))
  clear h10 k10
  go_wp2_with fail
  go_must (refine (awkU H10.out).mono ?_)
  rintro e w11 ⟨rfl, k11⟩
  have K11 := hid (K10.out.trans (KT.of_below k11 w.heap.size [57]) (Nat.le_refl _) (by simp))
  clear k11
  go_wp2
  go_ret
  exact ⟨rfl, K11.out.below (Nat.le_refl _)⟩

end Go.Proofs.Ytfcfbfingnpnoaa
