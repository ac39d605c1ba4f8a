/-
  Lists that are nil have nothing to collect; new lists.
-/
import Derived.Test.YtfcfbfingnpnoaaIlistB
set_option linter.unusedVariables false
set_option linter.unusedSimpArgs false
namespace Go.Proofs.Ytfcfbfingnpnoaa
open Go.RowKit Go.Shelf
attribute [local go_sem] Oper.semAt_some

section
variable {w : World} (tag : Int) (Bl Bt Bo : Nat) (hbl : Blk w Bl #[.pointer none] 26) (hbt : Blk w Bt #[.int .i64 tag] 3)
include hbl hbt
set_option maxRecDepth 100000 in
set_option maxHeartbeats 2000000 in
theorem lists_slots1_nil (n : Nat) (hn : 1 ≤ n) : SeqStopsK Fence.wide n Try.prog 48 #[.pointer (some ⟨Bl, 0, none⟩), .pointer (some ⟨Bt, 0, none⟩)] (fun x : Int => #[Value.int .i32 x])
    (Kp (fun k => k = Bo ∨ w.heap.size ≤ k)) (fun ys => ys = []) (fun pre => pre <+: []) 0 w := by
  intro l J Jx W hW hJ hJx hY h0
  have hcl := (hbl.below hW hbl.lt).cell 0 rfl
  have hct := (hbt.below hW hbt.lt).cell 0 rfl
  have HF := hid (callsIn_wide (n := n - 1).2 (ilist_Front_nil (w := W) tag))
  clear hJ hJx hY hbl hbt
  refine callsIn_of_wp Try.func48 rfl trivial ?_ rfl
  simp only [Try.ntmps48, List.size_toArray, List.length_cons, List.length_nil, Nat.reduceAdd, Nat.reduceSub, Array.replicate_succ, Array.replicate_zero, List.push_toArray, List.append_toArray, List.nil_append, List.cons_append]
  gi_wp2_with (refine ⟨trivial, ?_⟩; gi_at_call 14; go_must (refine HF.out.mono ?_; rintro e w' ⟨rfl, rfl⟩))
  clear hcl hct
  gi_loopw [4] (fun v wr => v = .int .i32 0 ∧ J [] wr) (fun _ _ => 0)
  case atStart => exact ⟨rfl, h0⟩
  case round =>
    obtain ⟨rfl, hJs⟩ := hrel
    gi_wp2
    refine ⟨fun _ h => (by cases h), ?_⟩
    gi_wp2
    go_end0
    exact ⟨⟨_, rfl⟩, .inl ⟨[], rfl, hJs⟩⟩
end

section
variable {w : World} (tag : Int)
set_option maxRecDepth 100000 in
set_option maxHeartbeats 2000000 in
theorem lists_All_nil : Calls Try.prog 15 #[.pointer none, .int .i64 tag] w fun e w' =>
    ∃ v, e = .returned v ∧ Row w' w.heap.size 21 1 v 0 [] ∧ Below w.heap.size w w' := by
  refine (callsIn_wide (n := 3)).1 ?_
  obtain ⟨i0, hi0, hz0, hz1, hz2⟩ := info_parts Try.info_i32
  have hbx := boxes3 w (.slice none 0 0) (.pointer none) (.int .i64 tag) 28 26 3 w.heap.size rfl
  have HSEQ := hid (lists_slots1_nil tag (w.heap.size + 1) (w.heap.size + 1 + 1) w.heap.size hbx.2.1 hbx.2.2.1 2 (by omega))
  have HBX := hid hbx
  clear hbx
  refine callsIn_of_wp_marks Try.func15 rfl trivial ?_ rfl
  simp only [Try.ntmps15, List.size_toArray, List.length_cons, List.length_nil, Nat.reduceAdd, Nat.reduceSub, Array.replicate_succ, Array.replicate_zero, List.push_toArray, List.append_toArray, List.nil_append, List.cons_append]
  gi_wp2_with (refine ⟨trivial, ?_⟩; gi_at_call 30; go_must (refine (callsIn_wide.2 (lists_slots _ _)).mono ?_; rintro e w' ⟨rfl, rfl⟩))
  have hb1 := HBX.out.1
  have hszw : (((w.alloc (.cells #[.slice none 0 0] 28)).alloc (.cells #[.pointer none] 26)).alloc (.cells #[.int .i64 tag] 3)).heap.size = w.heap.size + 1 + 1 + 1 := by simp
  have hbel := HBX.out.2.2.2
  have hseq := HSEQ.out
  rw [hszw] at hseq
  clear HBX HSEQ
  generalize (((w.alloc (.cells #[.slice none 0 0] 28)).alloc (.cells #[.pointer none] 26)).alloc (.cells #[.int .i64 tag] 3)) = w3 at *
  have hn3 : w.heap.size + 1 + 1 + 1 = w3.heap.size := hszw.symm
  have hlt3 : w.heap.size < w3.heap.size := by omega
  refine wpIn_rangeFunc_ownF rfl (by omega) (gf := 48) (lb := #[.pointer (some ⟨w.heap.size + 1, 0, none⟩), .pointer (some ⟨w.heap.size + 1 + 1, 0, none⟩)]) rfl trivial (enters_of Try.func48 (by kernel_rfl) rfl)
    hseq (fun h1 h2 => h1.trans h2 (fun _ _ h => h)) (fun W l o o' hl h1 h2 h3 => (Kp.refl _ W).grown (grownBy_putObj' W l o') (fun k e _ => by cases e; exact .inr (by omega))) (Below.refl _ _) (fun _ => rfl)
    (Coll w3 w.heap.size w3.heap.size) (fun _ _ _ => False) (Coll.own _ _ _) (fun _ _ _ _ _ hs _ _ => hs) ⟨⟨_, hb1, World.ownsRow_nil _ _ _ _⟩, Kp.refl _ _⟩
    (fun x => { tmps := #[.pointer none, .int .i64 tag, undef, undef, .slice none 0 0, .pointer (some ⟨w.heap.size, 0, none⟩), .int .i32 x, .pointer none, .int .i64 tag,
      .func (.func 48) #[] #[.pointer (some ⟨w.heap.size + 1, 0, none⟩), .pointer (some ⟨w.heap.size + 1 + 1, 0, none⟩)], .int .i32 x, undef, undef, undef, undef, undef], defers := [] }) ?assign ?body ?done ?stop
  case assign =>
    intro l x W K hK
    gi_wp2
    exact hK
  case body =>
    intro l pre x W _ hpl
    exact absurd hpl (Nat.not_lt_zero _)
  case done =>
    rintro D ys W hD rfl ⟨⟨v, hb, hr⟩, hk⟩ hKD
    have hcell := hb.cell 0 rfl
    have HR := hid hr
    have HK := hid hk
    have HD := hid hKD
    have HBEL := hid hbel
    clear hb1 hszw hbel hseq hn3 hb hr hk
    gi_wp2
    refine ⟨by simp, .inl ⟨_, _, rfl, run_takeDeferred hKD, ?_⟩⟩
    refine ⟨_, results_tmp rfl _ _ _, v, rfl, ?_, ?_⟩
    · refine (Row.of_owns (grown_row (grownBy_putObj' W D _) (fun r e => by cases e; exact ⟨_, hKD, rfl⟩) HR.out)).mono (Nat.le_of_lt hlt3)
    · refine (HBEL.out.trans (HK.out.below (B := w.heap.size) (Nat.le_of_lt hlt3) (fun k hk => by omega))).grown (grownBy_putObj' W D _) (Nat.le_trans (Nat.le_of_lt hlt3) HK.out.size) (fun k e => by cases e; omega)
  case stop =>
    rintro D c pre W _ _ h _
    exact h.elim
end


def Lst.new (A : Arn) (tags : Int) : Lst := { A := A, ls := List.replicate (min (max tags 1) 8).toNat L3.zero }
def NewLists (w : World) (B ga : Nat) (A : Arn) (tags : Int) (e : Ending) (w' : World) : Prop :=
  ∃ gl gll, e = .returned (.pointer (some ⟨gl, 0, none⟩)) ∧ ListsAt w' B gl ga gll (Lst.new A tags) ∧ Below w.heap.size w w' ∧ w.heap.size ≤ gl
theorem Try.info_list : (Try.prog.info? 69).map (fun i => (i.zero, i.size, i.bytes)) = some (some (.agg #[.int .i32 0, .int .i32 0, .int .i64 0]), 3, 16) := by kernel_rfl
theorem flat3_zeros (n : Nat) : (List.replicate n (Value.agg #[.int .i32 0, .int .i32 0, .int .i64 0]).cells.toList).flatten = flat3 (List.replicate n L3.zero) := by
  induction n with
  | zero => rfl
  | succ n ih => rw [List.replicate_succ, List.flatten_cons, ih, List.replicate_succ, flat3_cons]; rfl
set_option maxRecDepth 100000 in
set_option maxHeartbeats 800000 in
theorem ilist_New {w : World} {B ga : Nat} {A : Arn} (hA : ArenaIs w B ga A) (hB : B ≤ w.heap.size) (tags : Int) : Calls Try.prog 10 #[.pointer (some ⟨ga, 0, none⟩), .int .i64 tags] w (NewLists w B ga A tags) := by
  obtain ⟨i0, hi, hz0, hz1, hz2⟩ := info_parts Try.info_list
  obtain ⟨n, hn⟩ : ∃ n : Nat, n = (min (max tags 1) 8).toNat := ⟨_, rfl⟩
  have HN := hid hn
  have hn1 : 1 ≤ n := by omega
  have hn8 : n ≤ 8 := by omega
  have HL := hid hA
  clear hA hn
  have HFIN := hid (show ∀ gll0 gl0 : Nat, gll0 = w.heap.size → gl0 = w.heap.size + 1 → ListsAt ((w.alloc (.cells ((List.replicate n (Value.agg #[.int .i32 0, .int .i32 0, .int .i64 0]).cells.toList).flatten).toArray 69)).alloc (.cells #[.pointer (some ⟨ga, 0, none⟩), .slice (some ⟨w.heap.size, 0, none⟩) n n] 65)) B gl0 ga gll0 (Lst.new A tags) from fun gll0 gl0 e1 e2 => by
    subst e1
    subst e2
    rw [flat3_zeros]
    have hl : (Lst.new A tags).ls = List.replicate n L3.zero := by rw [HN.out]; rfl
    refine ⟨?_, ?_, HL.out.keep (by with_reducible repeat (first | exact Below.refl _ _ | assumption | refine Below.drew ?_ | refine Below.alloc ?_ (by simp; try omega) _ | refine Below.setCell ?_ (by simp; try omega) _ | refine pw_drewN ?_ _)), by omega, hB, by rw [hl]; simpa using hn8⟩
    · rw [hl, List.length_replicate]
      exact Blk.new' _ _ _ _ (by simp)
    · rw [hl]
      exact (Blk.new w _ _).alloc _)
  have hN := HN.out
  by_cases h1 : tags < 1
  · obtain rfl : n = 1 := by omega
    clear hN
    go_enter Try.func10, Try.ntmps10
    go_wp2_with (at_make; go_must (refine wpList_make_blk _ rfl _ _ 63 rfl 69 i0 _ 3 16 Try.underlying63 hi hz0 hz1 hz2 rfl (by decide) .i64 .i64 _ _ 1 rfl rfl (by omega) (by omega) (by omega) (by omega) ?_))
    go_ret
    exact ⟨w.heap.size + 1, w.heap.size, rfl, HFIN.out _ _ rfl rfl, (by with_reducible repeat (first | exact Below.refl _ _ | assumption | refine Below.drew ?_ | refine Below.alloc ?_ (by simp; try omega) _ | refine Below.setCell ?_ (by simp; try omega) _ | refine pw_drewN ?_ _)), by omega⟩
  · by_cases h2 : tags ≤ 8
    · obtain ⟨m, rfl⟩ := Int.eq_ofNat_of_zero_le (show 0 ≤ tags by omega)
      obtain rfl : n = m := by omega
      clear hN
      have h3 : ¬ (8 < (n : Int)) := by omega
      go_enter Try.func10, Try.ntmps10
      go_wp2_with (at_make; go_must (refine wpList_make_blk _ rfl _ _ 63 rfl 69 i0 _ 3 16 Try.underlying63 hi hz0 hz1 hz2 rfl (by decide) .i64 .i64 _ _ n rfl rfl (by omega) (by omega) (by omega) (by omega) ?_))
      go_ret
      exact ⟨w.heap.size + 1, w.heap.size, rfl, HFIN.out _ _ rfl rfl, (by with_reducible repeat (first | exact Below.refl _ _ | assumption | refine Below.drew ?_ | refine Below.alloc ?_ (by simp; try omega) _ | refine Below.setCell ?_ (by simp; try omega) _ | refine pw_drewN ?_ _)), by omega⟩
    · obtain rfl : n = 8 := by omega
      clear hN
      go_enter Try.func10, Try.ntmps10
      go_wp2_with (at_make; go_must (refine wpList_make_blk _ rfl _ _ 63 rfl 69 i0 _ 3 16 Try.underlying63 hi hz0 hz1 hz2 rfl (by decide) .i64 .i64 _ _ 8 rfl rfl (by omega) (by omega) (by omega) (by omega) ?_))
      go_ret
      exact ⟨w.heap.size + 1, w.heap.size, rfl, HFIN.out _ _ rfl rfl, (by with_reducible repeat (first | exact Below.refl _ _ | assumption | refine Below.drew ?_ | refine Below.alloc ?_ (by simp; try omega) _ | refine Below.setCell ?_ (by simp; try omega) _ | refine pw_drewN ?_ _)), by omega⟩

end Go.Proofs.Ytfcfbfingnpnoaa
