/-
  Lists: all of a list is collected.
-/
import Derived.Test.YtfcfbfingnpnoaaIlistA
import Derived.Maps.AppendAt
import Derived.Shelf.Abstract
set_option linter.unusedVariables false
set_option linter.unusedSimpArgs false
namespace Go.Proofs.Ytfcfbfingnpnoaa
open Go.RowKit Go.Shelf
attribute [local go_sem] Oper.semAt_some

theorem grown_blk {W W' : World} {row : Option Nat} (hg : W.grownBy W' row) (hr : ∀ r, row = some r → ∃ o : Obj, W.heap[r]? = some o ∧ o.isCells = false) {b : Nat} {c : Array Value} {T : TypeId} (hb : Blk W b c T) : Blk W' b c T := by
  refine (hg.block b hb.lt (fun e => ?_)).trans hb
  obtain ⟨o, ho, hc⟩ := hr b e.symm
  unfold Blk at hb
  rw [hb] at ho
  cases ho
  cases hc

theorem grown_row {W W' : World} {row : Option Nat} (hg : W.grownBy W' row) (hr : ∀ r, row = some r → ∃ o : Obj, W.heap[r]? = some o ∧ o.isCells = false) {B e sz n : Nat} {v : Value} {xs : List Value} (h : W.ownsRow B e sz v n xs) : W'.ownsRow B e sz v n xs := by
  refine h.kept hg ?_
  rcases h.2 with ⟨rfl, _⟩ | ⟨g, cap, cur, rfl, _, hgb, _⟩
  · exact .inl rfl
  · refine .inr fun e' => ?_
    obtain ⟨o, ho, hc⟩ := hr g (by simpa [Value.ownBlock] using e'.symm)
    rw [hgb] at ho
    cases ho
    cases hc
/-- What a call has of 'All' between two rounds. -/
def Coll (w3 : World) (Bo n1 : Nat) (pre : List Int) (W : World) : Prop :=
  (∃ v, Blk W Bo #[v] 28 ∧ W.ownsRow n1 21 1 v pre.length (pre.map (Value.int .i32))) ∧ Kp (fun k => k = Bo ∨ n1 ≤ k) w3 W
theorem Coll.own (w3 : World) (Bo n1 : Nat) : OwnFrom n1 (Coll w3 Bo n1) := by
  rintro s W W' row ⟨⟨v, hb, hr⟩, hk⟩ hg hrow
  have hr' : ∀ r, row = some r → ∃ o : Obj, W.heap[r]? = some o ∧ o.isCells = false := fun r e => (hrow r e).2
  exact ⟨⟨v, grown_blk hg hr' hb, grown_row hg hr' hr⟩, hk.grown hg (fun k e _ => .inr (hrow k e).1)⟩
theorem coll_step {W w1 : World} {Bo n1 m k : Nat} {v v' : Value} {xs ys : List Value} {tmp : Obj} (hb : Blk W Bo #[v] 28) (hrow : W.ownsRow n1 21 1 v k xs) (hn : n1 ≤ W.heap.size) (hB : Bo < n1)
    (hown' : w1.ownsRow n1 21 1 v' m ys) (hgrow : (W.alloc tmp).grownBy w1 v.ownBlock) :
    Blk w1 Bo #[v] 28 ∧ Blk (w1.setCell ⟨Bo, 0, none⟩ v') Bo #[v'] 28 ∧ (w1.setCell ⟨Bo, 0, none⟩ v').ownsRow n1 21 1 v' m ys ∧ KeepsOthers W (w1.setCell ⟨Bo, 0, none⟩ v') ∧ Kp (fun k => k = Bo ∨ n1 ≤ k) W (w1.setCell ⟨Bo, 0, none⟩ v') := by
  have hv : Boxed W Bo 28 v := hb
  have hv1 : Boxed w1 Bo 28 v := (hv.alloc tmp).kept hgrow (hv.not_row (by decide) hrow)
  refine ⟨hv1, hv1.set v', hown'.kept (grownBy_setCell' w1 Bo v') (.inr (hv1.not_row (by decide) hown').symm), ?_, ?_⟩
  · refine ((KeepsOthers.alloc W tmp).trans (KeepsOthers.of_grownBy hgrow fun j o ej hj => ?_)).trans (KeepsOthers.setCell _ _ _)
    rcases (hrow.alloc tmp).2 with ⟨rfl, _⟩ | ⟨g, cap, cur, rfl, _, hgb, _⟩
    · simp [Value.ownBlock] at ej
    · obtain rfl : g = j := by simpa [Value.ownBlock] using ej
      rw [hgb] at hj; cases hj; rfl
  · refine ((((Kp.refl (fun k => k = Bo ∨ n1 ≤ k) W).alloc tmp).grown hgrow (fun j ej hlt => ?_)).setCell (p := ⟨Bo, 0, none⟩) (fun _ => .inl rfl) v')
    rcases hrow.2 with ⟨rfl, _⟩ | ⟨g, cap, cur, rfl, hb, _, _⟩
    · simp [Value.ownBlock] at ej
    · obtain rfl : g = j := by simpa [Value.ownBlock] using ej
      exact .inr hb

section
variable {w : World} {B gl ga gll : Nat} {S : Lst} (h : ListsAt w B gl ga gll S) (hw : S.wf) (tag : Int) (xs : List Int) (hx : S.chain (S.front tag) xs) (hlen : xs.length ≤ 1000000)
include h hw hx hlen
set_option maxRecDepth 100000 in
set_option maxHeartbeats 2000000 in
theorem lists_All : Calls Try.prog 15 #[.pointer (some ⟨gl, 0, none⟩), .int .i64 tag] w fun e w' =>
    ∃ v, e = .returned v ∧ Row w' w.heap.size 21 1 v xs.length (xs.map (Value.int .i32)) ∧ Below w.heap.size w w' := by
  refine (callsIn_wide (n := 3)).1 ?_
  obtain ⟨i0, hi0, hz0, hz1, hz2⟩ := info_parts Try.info_i32
  have hbx := boxes3 w (.slice none 0 0) (.pointer (some ⟨gl, 0, none⟩)) (.int .i64 tag) 28 26 3 w.heap.size rfl
  have HSEQ := hid (lists_slots1 (h.keep hbx.2.2.2) hw tag (w.heap.size + 1) (w.heap.size + 1 + 1) w.heap.size hbx.2.1 hbx.2.2.1 (fun c T hb => (hbx.1.inj hb).2.symm) xs hx 2 (by omega))
  have HBX := hid hbx
  clear h hw hx hbx
  refine callsIn_of_wp_marks Try.func15 rfl trivial ?_ rfl
  simp only [Try.ntmps15, List.size_toArray, List.length_cons, List.length_nil, Nat.reduceAdd, Nat.reduceSub, Array.replicate_succ, Array.replicate_zero, List.push_toArray, List.append_toArray, List.nil_append, List.cons_append]
  gi_wp2_with (refine ⟨trivial, ?_⟩; gi_at_call 30; go_must (refine (callsIn_wide.2 (lists_slots _ _)).mono ?_; rintro e w' ⟨rfl, rfl⟩))
  have hb1 := HBX.out.1
  have hszw : (((w.alloc (.cells #[.slice none 0 0] 28)).alloc (.cells #[.pointer (some ⟨gl, 0, none⟩)] 26)).alloc (.cells #[.int .i64 tag] 3)).heap.size = w.heap.size + 1 + 1 + 1 := by simp
  have hbel := HBX.out.2.2.2
  have hseq := HSEQ.out
  rw [hszw] at hseq
  clear HBX HSEQ
  generalize (((w.alloc (.cells #[.slice none 0 0] 28)).alloc (.cells #[.pointer (some ⟨gl, 0, none⟩)] 26)).alloc (.cells #[.int .i64 tag] 3)) = w3 at *
  have hn3 : w.heap.size + 1 + 1 + 1 = w3.heap.size := hszw.symm
  have hlt3 : w.heap.size < w3.heap.size := by omega
  refine wpIn_rangeFunc_ownF rfl (by omega) (gf := 48) (lb := #[.pointer (some ⟨w.heap.size + 1, 0, none⟩), .pointer (some ⟨w.heap.size + 1 + 1, 0, none⟩)]) rfl trivial (enters_of Try.func48 (by kernel_rfl) rfl)
    hseq (fun h1 h2 => h1.trans h2 (fun _ _ h => h)) (fun W l o o' hl h1 h2 h3 => (Kp.refl _ W).grown (grownBy_putObj' W l o') (fun k e _ => by cases e; exact .inr (by omega))) (Below.refl _ _) (fun _ => rfl)
    (Coll w3 w.heap.size w3.heap.size) (fun _ _ _ => False) (Coll.own _ _ _) (fun _ _ _ _ _ hs _ _ => hs) ⟨⟨_, hb1, World.ownsRow_nil _ _ _ _⟩, Kp.refl _ _⟩
    (fun x => { tmps := #[.pointer (some ⟨gl, 0, none⟩), .int .i64 tag, undef, undef, .slice none 0 0, .pointer (some ⟨w.heap.size, 0, none⟩), .int .i32 x, .pointer (some ⟨gl, 0, none⟩), .int .i64 tag,
      .func (.func 48) #[] #[.pointer (some ⟨w.heap.size + 1, 0, none⟩), .pointer (some ⟨w.heap.size + 1 + 1, 0, none⟩)], .int .i32 x, undef, undef, undef, undef, undef], defers := [] }) ?assign ?body ?done ?stop
  case assign =>
    intro l x W K hK
    gi_wp2
    exact hK
  case body =>
    rintro l pre x W ⟨⟨v, hb, hr⟩, hk⟩ hpl
    have hcell := hb.cell 0 rfl
    have hpl2 : pre.length < 1000000 := Nat.lt_of_lt_of_le hpl hlen
    have hWs := hk.size
    have HB := hid hb
    have HR := hid hr
    have HK := hid hk
    have HN3 := hid hn3
    clear hb hr hk hb1 hszw hbel hseq hn3
    gi_wp2_with (gi_at_builtin; go_must (refine wpListIn_append_own _ rfl _ _ 28 rfl w3.heap.size 21 i0 _ 1 4 Try.underlying28 hi0 hz0 hz1 hz2 rfl (by decide) _ _ _ rfl (HR.out.alloc _) ⟨W.heap.size, 0, none⟩ 1 1 [.int .i32 x] rfl rfl (new1 rfl) (by simp [Value.oneCell']) (by unfold maxLen; omega) (by omega) (by simp; omega) ?_; intro v' w1 hown' hgrow _; obtain ⟨g', cap', rfl⟩ := ownsRow_succ hown'; obtain ⟨q1, q2, q3, q4, q5⟩ := coll_step HB.out HR.out hWs hlt3 hown' hgrow; have hc1 := q1.cell 0 rfl; have hf1 := q1.frozen 0; have Q2 := hid q2; have Q3 := hid q3; have Q4 := hid q4; have Q5 := hid q5; clear q1 q2 q3 q4 q5 hown' hgrow))
    refine ⟨Q4.out, Q5.out.mono (fun k _ hk => by have := HN3.out; omega), ⟨_, Q2.out, ?_⟩, HK.out.trans Q5.out (fun _ _ h => h)⟩
    have hq := Q3.out
    rw [List.length_append, List.map_append]
    exact hq
  case done =>
    rintro D ys W hD rfl ⟨⟨v, hb, hr⟩, hk⟩ hKD
    have hcell := hb.cell 0 rfl
    have HR := hid hr
    have HK := hid hk
    have HD := hid hKD
    have HBEL := hid hbel
    clear hb1 hszw hbel hseq hn3 hb hr hk
    gi_wp2
    refine ⟨by simp, .inl ⟨_, _, rfl, run_takeDeferred hKD, ?_⟩⟩
    refine ⟨_, results_tmp rfl _ _ _, v, rfl, ?_, ?_⟩
    · refine (Row.of_owns (grown_row (grownBy_putObj' W D _) (fun r e => by cases e; exact ⟨_, hKD, rfl⟩) HR.out)).mono (Nat.le_of_lt hlt3)
    · refine (HBEL.out.trans (HK.out.below (B := w.heap.size) (Nat.le_of_lt hlt3) (fun k hk => by omega))).grown (grownBy_putObj' W D _) (Nat.le_trans (Nat.le_of_lt hlt3) HK.out.size) (fun k e => by cases e; omega)
  case stop =>
    rintro D c pre W _ _ h _
    exact h.elim
end

end Go.Proofs.Ytfcfbfingnpnoaa
