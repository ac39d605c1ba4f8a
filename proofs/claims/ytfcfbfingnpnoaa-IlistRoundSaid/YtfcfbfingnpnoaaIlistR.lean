/-
  Lists: pushing, taking out, moving; and what lists that are nil tell.
-/
import Derived.Test.YtfcfbfingnpnoaaIlistL
set_option linter.unusedVariables false
set_option linter.unusedSimpArgs false
namespace Go.Proofs.Ytfcfbfingnpnoaa
open Go.RowKit
attribute [local go_sem] field_nd0 field_nd1 field_nd2 field_nd3 field_nd4 field_nd5

structure Lst.wf (S : Lst) : Prop where
  nodes : S.A.wf
  heads : ∀ l ∈ S.ls, I32 l.front ∧ I32 l.back ∧ l.many ≤ 1000000
theorem Lst.wf.many {S : Lst} (h : S.wf) (t : Nat) : S.manyAt t ≤ 1000000 := by
  unfold Lst.manyAt
  split
  · rename_i l hl
    exact (h.heads l (List.mem_of_getElem? hl)).2.2
  · omega
theorem i32_zero : I32 0 := by unfold I32; omega
theorem Lst.wf.front {S : Lst} (h : S.wf) (tag : Int) : I32 (S.front tag) := by
  unfold Lst.front
  split
  · rename_i l hl
    exact (h.heads l (List.mem_of_getElem? (Lst.get_some hl).2.2)).1
  · exact i32_zero
theorem Lst.wf.back {S : Lst} (h : S.wf) (tag : Int) : I32 (S.back tag) := by
  unfold Lst.back
  split
  · rename_i l hl
    exact (h.heads l (List.mem_of_getElem? (Lst.get_some hl).2.2)).2.1
  · exact i32_zero

section
variable {w : World} {B gl ga gll : Nat} {S : Lst} (h : ListsAt w B gl ga gll S) (hB : B ≤ w.heap.size) (hw : S.wf) (tag i : Int) (hi : I32 i)
include h hB hw hi
set_option maxRecDepth 100000 in
set_option maxHeartbeats 400000 in
theorem ilist_PushFront :
    Calls Try.prog 17 #[.pointer (some ⟨gl, 0, none⟩), .int .i64 tag, .int .i32 i] w fun e w' => e = .returned (.bool (S.may tag i)) ∧ ListsAt w' B gl ga gll (S.lay tag 0 i (S.front tag)) ∧ KT B [62, 69] w w' := by
  have H1 := hid (ilist_Front h tag)
  have H2 := hid (ilist_lay h hB hw.nodes tag 0 i (S.front tag) hi i32_zero (hw.front tag) hw.many)
  clear h hB hw hi
  go_enter Try.func17, Try.ntmps17
  go_wp2_with (first | (go_at_call 14; go_must (refine H1.out.mono ?_; rintro e w' ⟨rfl, rfl⟩)) | (go_at_call 32; go_must (refine H2.out.mono ?_; rintro e w' ⟨rfl, h1, h2⟩)))
  go_ret
  exact ⟨rfl, h1, h2⟩
set_option maxRecDepth 100000 in
set_option maxHeartbeats 400000 in
theorem ilist_PushBack :
    Calls Try.prog 18 #[.pointer (some ⟨gl, 0, none⟩), .int .i64 tag, .int .i32 i] w fun e w' => e = .returned (.bool (S.may tag i)) ∧ ListsAt w' B gl ga gll (S.lay tag (S.back tag) i 0) ∧ KT B [62, 69] w w' := by
  have H1 := hid (ilist_Back h tag)
  have H2 := hid (ilist_lay h hB hw.nodes tag (S.back tag) i 0 hi (hw.back tag) i32_zero hw.many)
  clear h hB hw hi
  go_enter Try.func18, Try.ntmps18
  go_wp2_with (first | (go_at_call 21; go_must (refine H1.out.mono ?_; rintro e w' ⟨rfl, rfl⟩)) | (go_at_call 32; go_must (refine H2.out.mono ?_; rintro e w' ⟨rfl, h1, h2⟩)))
  go_ret
  exact ⟨rfl, h1, h2⟩
end

def Lst.zeroN (S : Lst) (i : Int) : Lst := { S with A := S.A.put i { S.A.at_ i with tag := 0, prev := 0, next := 0 } }
def Lst.gone (S : Lst) (i : Int) : Lst := ((S.join (S.tag i).toNat (S.A.at_ i).prev (S.A.at_ i).next).setMany (S.tag i).toNat (S.manyAt (S.tag i).toNat - 1)).zeroN i
def Lst.isIn (S : Lst) (i : Int) : Bool := (S.get (S.tag i)).isSome
def Lst.remove (S : Lst) (i : Int) : Lst := if S.isIn i then S.gone i else S

section
variable {w : World} {B gl ga gll : Nat} {S : Lst} (h : ListsAt w B gl ga gll S) (hB : B ≤ w.heap.size) (hw : S.wf) (i : Int) (hi : I32 i)
include h hw hi
set_option maxRecDepth 100000 in
set_option maxHeartbeats 400000 in
theorem ilist_Remove_no (e : S.get (S.tag i) = none) :
    Calls Try.prog 19 #[.pointer (some ⟨gl, 0, none⟩), .int .i32 i] w fun e w' => e = .returned (.bool false) ∧ Below w.heap.size w w' := by
  have H1 := hid (ilist_Tag h hw.nodes i hi)
  have H2 := hid (fun W (hb : Below w.heap.size w W) => ilist_list (h.keep hb) (S.tag i))
  have e2 : S.ptr gll (S.tag i) = .pointer none := by simp [Lst.ptr, e]
  rw [e2] at H2
  generalize S.tag i = tg at *
  clear h hw hi e e2
  go_enter Try.func19, Try.ntmps19
  go_wp2_with (first | (go_at_call 16; go_must (refine H1.out.mono ?_; rintro e w1 ⟨rfl, hb⟩)) | (go_at_call 29; go_must (refine (H2.out _ hb).mono ?_; rintro e w' ⟨rfl, rfl⟩)))
  go_ret
  exact ⟨rfl, hb⟩

include hB
set_option maxRecDepth 100000 in
set_option maxHeartbeats 1600000 in
theorem ilist_Remove_yes {l : L3} (e : S.get (S.tag i) = some l) (hpos : 1 ≤ S.manyAt (S.tag i).toNat) :
    Calls Try.prog 19 #[.pointer (some ⟨gl, 0, none⟩), .int .i32 i] w fun e w' => e = .returned (.bool true) ∧ ListsAt w' B gl ga gll (S.gone i) ∧ KT B [62, 69] w w' := by
  obtain ⟨t0, t1, t2⟩ := Lst.get_some e
  have H1 := hid (ilist_Tag h hw.nodes i hi)
  have H2 := hid (fun W (hb : Below w.heap.size w W) => ilist_list (h.keep hb) (S.tag i))
  have H3 := hid (fun W (hb : Below w.heap.size w W) => arena_At (h.keep hb).arena i hi)
  have HC := hid (fun W (hb : Below w.heap.size w W) => (h.keep hb).c0)
  have HH := hid h
  have HW := hid hw
  have HI := hid hi
  have HBB := hid hB
  have HM := hid (hw.many (S.tag i).toNat)
  have HP := hid hpos
  have e2 : S.ptr gll (S.tag i) = .pointer (some ⟨gll, (S.tag i).toNat * 3, none⟩) := by simp [Lst.ptr, e]
  rw [e2] at H2
  have HLT := hid (show (S.tag i).toNat < S.ls.length by omega)
  obtain ⟨_, _, wp, wn⟩ := Arn.at_wf hw.nodes i
  have WP := hid wp
  have WN := hid wn
  unfold Lst.gone
  clear h hw hi e e2 hB t0 t1 t2 hpos wp wn
  generalize htg : S.tag i = tg at *
  generalize hN : S.A.at_ i = N at *
  obtain ⟨a0, a1, a2, a3, a4, a5⟩ := N
  clear hN htg
  dsimp only at WP WN ⊢
  go_enter Try.func19, Try.ntmps19
  go_wp2_with (first | (go_at_call 16; go_must (refine H1.out.mono ?_; rintro e w1 ⟨rfl, hb⟩; have h0 := HC.out _ hb)) | (go_at_call 29; go_must (refine (H2.out _ hb).mono ?_; rintro e w' ⟨rfl, rfl⟩)) | (go_at_call 31; go_must (refine (H3.out _ hb).mono ?_; rintro e w2 ⟨rfl, hb2⟩)))
  have hbw : Below w.heap.size w (w2.alloc (.cells #[.int .u64 a0, .int .u64 a1, .int .i64 a2, .int .i64 a3, .int .i32 a4, .int .i32 a5] 60)) := (hb.trans (hb2.mono hb.size)).alloc (Nat.le_trans hb.size hb2.size) _
  have HJ := hid (ilist_join (HH.out.keep hbw) (Nat.le_trans HBB.out hbw.size) tg.toNat HLT.out a4 a5 WP.out WN.out)
  have HK1 := hid (KT.of_below hbw B [62, 69])
  have HS1 := hid (Nat.le_trans HBB.out hbw.size)
  clear hbw hb hb2 h0
  go_must (refine HJ.out.mono ?_)
  rintro e w3 ⟨rfl, h3, k3⟩
  obtain ⟨l3, hl3⟩ : ∃ l, (S.join tg.toNat a4 a5).ls[tg.toNat]? = some l := ⟨_, List.getElem?_eq_getElem (by rw [Lst.len_join]; exact HLT.out)⟩
  have hmany : l3.many = S.manyAt tg.toNat := by rw [Lst.manyAt_some hl3, Lst.manyAt_join]
  have c3 := h3.hc hl3 2 (by omega) rfl
  rw [hmany] at c3
  have hbound := HM.out
  have hpos := HP.out
  have hfz := h3.heads.frozen
  have hmm := h3.many_ hl3 (S.manyAt tg.toNat - 1) (k := (S.manyAt tg.toNat : Int) - 1) (by omega)
  have HZ := hid (with_zero hmm.1 (by have := k3.size; have := HS1.out; simp; omega) i HI.out)
  have HQ := hid ((HK1.out.trans k3 (Nat.le_refl _) (by simp)).trans hmm.2 (Nat.le_refl _) (by simp))
  clear h3 k3 hmany hl3 hmm
  generalize hmm : S.manyAt tg.toNat = many at *
  have HMM := hid hmm
  clear hmm
  go_wp2_with fail
  go_must (refine HZ.out.mono ?_)
  rintro e w4 ⟨rfl, h4, k4⟩
  go_wp2
  go_ret
  obtain rfl := HMM.out
  exact ⟨rfl, h4, HQ.out.trans k4 (Nat.le_refl _) (by simp)⟩
end

section
variable {w : World} {B gl ga gll : Nat} {S : Lst} (h : ListsAt w B gl ga gll S) (hB : B ≤ w.heap.size) (hw : S.wf) (tag i : Int) (hi : I32 i)
include h hB hw hi
theorem ilist_Remove (hpos : S.isIn i = true → 1 ≤ S.manyAt (S.tag i).toNat) :
    Calls Try.prog 19 #[.pointer (some ⟨gl, 0, none⟩), .int .i32 i] w fun e w' => e = .returned (.bool (S.isIn i)) ∧ ListsAt w' B gl ga gll (S.remove i) ∧ KT B [62, 69] w w' := by
  unfold Lst.remove
  cases e : S.get (S.tag i) with
  | none =>
    have e1 : S.isIn i = false := by simp [Lst.isIn, e]
    rw [e1]
    exact (ilist_Remove_no h hw i hi e).mono fun _ _ ⟨h1, h2⟩ => ⟨h1, h.keep h2, KT.of_below h2 _ _⟩
  | some l =>
    have e1 : S.isIn i = true := by simp [Lst.isIn, e]
    rw [e1]
    exact ilist_Remove_yes h hB hw i hi e (hpos e1)

def Lst.mayMove (S : Lst) (tag i : Int) : Bool := (S.get tag).isSome && S.isIn i && (S.remove i).may tag i
def Lst.moved (S : Lst) (tag i : Int) : Lst := if (S.get tag).isSome && S.isIn i then (S.remove i).lay tag 0 i ((S.remove i).front tag) else S
set_option maxRecDepth 100000 in
set_option maxHeartbeats 800000 in
theorem ilist_MoveFront (hpos : S.isIn i = true → 1 ≤ S.manyAt (S.tag i).toNat) (hw2 : (S.remove i).wf) :
    Calls Try.prog 20 #[.pointer (some ⟨gl, 0, none⟩), .int .i64 tag, .int .i32 i] w fun e w' => e = .returned (.bool (S.mayMove tag i)) ∧ ListsAt w' B gl ga gll (S.moved tag i) ∧ KT B [62, 69] w w' := by
  have H1 := hid (ilist_list h tag)
  have H2 := hid (ilist_Remove h hB hw i hi hpos)
  have H3 := hid (fun W (hW : ListsAt W B gl ga gll (S.remove i)) (hs : B ≤ W.heap.size) => ilist_PushFront hW hs hw2 tag i hi)
  have HB := hid hB
  have HH := hid h
  cases e : S.get tag with
  | none =>
    have e1 : S.mayMove tag i = false := by simp [Lst.mayMove, e]
    have e2 : S.moved tag i = S := by simp [Lst.moved, e]
    have e3 : S.ptr gll tag = .pointer none := by simp [Lst.ptr, e]
    rw [e1, e2]
    rw [e3] at H1
    clear e e1 e2 e3 h hB hw hi hpos hw2
    go_enter Try.func20, Try.ntmps20
    go_wp2_with (go_at_call 29; go_must (refine H1.out.mono ?_; rintro e w' ⟨rfl, rfl⟩))
    go_ret
    exact ⟨rfl, HH.out, KT.refl _ _ _⟩
  | some l =>
    have e3 : S.ptr gll tag = .pointer (some ⟨gll, tag.toNat * 3, none⟩) := by simp [Lst.ptr, e]
    rw [e3] at H1
    cases e4 : S.isIn i with
    | false =>
      have e1 : S.mayMove tag i = false := by simp [Lst.mayMove, e4]
      have e2 : S.moved tag i = S := by simp [Lst.moved, e4]
      have e5 : S.remove i = S := by simp [Lst.remove, e4]
      rw [e1, e2]
      rw [e4, e5] at H2
      clear e e1 e2 e3 e4 e5 h hB hw hi hpos hw2
      go_enter Try.func20, Try.ntmps20
      go_wp2_with (first | (go_at_call 29; go_must (refine H1.out.mono ?_; rintro e w' ⟨rfl, rfl⟩)) | (go_at_call 19; go_must (refine H2.out.mono ?_; rintro e w1 ⟨rfl, h1, k1⟩)))
      go_ret
      exact ⟨rfl, h1, k1⟩
    | true =>
      have e1 : S.mayMove tag i = (S.remove i).may tag i := by simp [Lst.mayMove, e, e4]
      have e2 : S.moved tag i = (S.remove i).lay tag 0 i ((S.remove i).front tag) := by simp [Lst.moved, e, e4]
      rw [e1, e2]
      rw [e4] at H2
      clear e e1 e2 e3 e4 h hB hw hi hpos hw2
      generalize (S.remove i).may tag i = bb at *
      generalize (S.remove i).lay tag 0 i ((S.remove i).front tag) = S2 at *
      go_enter Try.func20, Try.ntmps20
      go_wp2_with (first | (go_at_call 29; go_must (refine H1.out.mono ?_; rintro e w' ⟨rfl, rfl⟩)) | (go_at_call 19; go_must (refine H2.out.mono ?_; rintro e w1 ⟨rfl, h1, k1⟩)) | (go_at_call 17; go_must (refine (H3.out _ h1 (Nat.le_trans HB.out k1.size)).mono ?_; rintro e w2 ⟨rfl, h2, k2⟩)))
      go_ret
      exact ⟨rfl, h2, k1.trans k2 (Nat.le_refl _) (fun _ h => h)⟩
end

/- Lists that are nil. -/
section
variable {w : World} (tag i : Int)
theorem ilist_lay_nil (prev next : Int) : Calls Try.prog 32 #[.pointer none, .int .i64 tag, .int .i32 prev, .int .i32 i, .int .i32 next] w fun e w' => e = .returned (.bool false) ∧ Below w.heap.size w w' := by
  go_enter Try.func32, Try.ntmps32
  go_wp2_with (go_at_call 29; go_must (refine (ilist_list_nil tag).mono ?_; rintro e w' ⟨rfl, rfl⟩))
  go_ret
  exact ⟨rfl, (by with_reducible repeat (first | exact Below.refl _ _ | assumption | refine Below.drew ?_ | refine Below.alloc ?_ (by simp; try omega) _ | refine Below.setCell ?_ (by simp; try omega) _ | refine pw_drewN ?_ _))⟩
theorem ilist_PushFront_nil : Calls Try.prog 17 #[.pointer none, .int .i64 tag, .int .i32 i] w fun e w' => e = .returned (.bool false) ∧ Below w.heap.size w w' := by
  go_enter Try.func17, Try.ntmps17
  go_wp2_with (first | (go_at_call 14; go_must (refine (ilist_Front_nil tag).mono ?_; rintro e w' ⟨rfl, rfl⟩)) | (go_at_call 32; go_must (refine (ilist_lay_nil tag i 0 0).mono ?_; rintro e w' ⟨rfl, h1⟩)))
  go_ret
  exact ⟨rfl, h1⟩
theorem ilist_PushBack_nil : Calls Try.prog 18 #[.pointer none, .int .i64 tag, .int .i32 i] w fun e w' => e = .returned (.bool false) ∧ Below w.heap.size w w' := by
  go_enter Try.func18, Try.ntmps18
  go_wp2_with (first | (go_at_call 21; go_must (refine (ilist_Back_nil tag).mono ?_; rintro e w' ⟨rfl, rfl⟩)) | (go_at_call 32; go_must (refine (ilist_lay_nil tag i 0 0).mono ?_; rintro e w' ⟨rfl, h1⟩)))
  go_ret
  exact ⟨rfl, h1⟩
theorem ilist_Remove_nil : Calls Try.prog 19 #[.pointer none, .int .i32 i] w fun e w' => e = .returned (.bool false) ∧ w = w' := by
  go_enter Try.func19, Try.ntmps19
  go_wp2_with (first | (go_at_call 16; go_must (refine (ilist_Tag_nil i).mono ?_; rintro e w' ⟨rfl, rfl⟩)) | (go_at_call 29; go_must (refine (ilist_list_nil _).mono ?_; rintro e w' ⟨rfl, rfl⟩)))
  go_ret
  exact ⟨rfl, rfl⟩
theorem ilist_MoveFront_nil : Calls Try.prog 20 #[.pointer none, .int .i64 tag, .int .i32 i] w fun e w' => e = .returned (.bool false) ∧ w = w' := by
  go_enter Try.func20, Try.ntmps20
  go_wp2_with (go_at_call 29; go_must (refine (ilist_list_nil _).mono ?_; rintro e w' ⟨rfl, rfl⟩))
  go_ret
  exact ⟨rfl, rfl⟩
theorem ilist_After_nil : Calls Try.prog 22 #[.pointer none, .int .i32 i] w fun e w' => e = .returned (.int .i32 0) ∧ w = w' := by
  go_enter Try.func22, Try.ntmps22
  go_wp2_with (go_at_call 16; go_must (refine (ilist_Tag_nil i).mono ?_; rintro e w' ⟨rfl, rfl⟩))
  go_ret
  exact ⟨rfl, rfl⟩
theorem ilist_Before_nil : Calls Try.prog 23 #[.pointer none, .int .i32 i] w fun e w' => e = .returned (.int .i32 0) ∧ w = w' := by
  go_enter Try.func23, Try.ntmps23
  go_wp2_with (go_at_call 16; go_must (refine (ilist_Tag_nil i).mono ?_; rintro e w' ⟨rfl, rfl⟩))
  go_ret
  exact ⟨rfl, rfl⟩
end

end Go.Proofs.Ytfcfbfingnpnoaa
