/-
  Lists: a list is gone through by an iterator; all of it is collected.
-/
import Derived.Test.YtfcfbfingnpnoaaIlistR
import Derived.RangeFuncNested
import Derived.RangeFuncBound
import Derived.RangeFuncCalls
import Derived.RangeFuncLeaves
import Derived.WalkKit
import Derived.OwnWalkIn
import Derived.TacticsInMore
import Derived.LoopNIn
import Derived.LoopIn
set_option linter.unusedVariables false
set_option linter.unusedSimpArgs false
namespace Go.Proofs.Ytfcfbfingnpnoaa
open Go.RowKit
attribute [local go_sem] Oper.semAt_some

/-- From i on, the slots of a list, one behind the other. -/
def Lst.chain (S : Lst) : Int → List Int → Prop
  | i, [] => i = 0
  | i, x :: xs => i = x ∧ x ≠ 0 ∧ I32 x ∧ S.chain (S.after x) xs

theorem Lst.chain_unique {S : Lst} : ∀ {i : Int} {xs ys : List Int}, S.chain i xs → S.chain i ys → xs = ys
  | _, [], [], _, _ => rfl
  | _, [], _ :: _, h, ⟨h1, h2, _⟩ => absurd (h1 ▸ h) h2
  | _, _ :: _, [], ⟨h1, h2, _⟩, h => absurd (h1 ▸ h) h2
  | _, _ :: _, _ :: _, ⟨h1, _, _, h4⟩, ⟨k1, _, _, k4⟩ => by
    subst h1
    subst k1
    rw [Lst.chain_unique h4 k4]
open Classical in
noncomputable def Lst.left (S : Lst) (v : Value) : Nat := if h : ∃ xs, S.chain (intOf v) xs then (Classical.choose h).length else 0
theorem Lst.left_eq {S : Lst} {i : Int} {xs : List Int} (h : S.chain i xs) (k : IntKind) : S.left (.int k i) = xs.length := by
  have hh : ∃ xs, S.chain (intOf (.int k i)) xs := ⟨xs, h⟩
  unfold Lst.left
  rw [dif_pos hh, Lst.chain_unique (Classical.choose_spec hh) h]
theorem grown_below {w w1 : World} (h : Below w.heap.size w w1) (row : Option Nat) : w.grownBy w1 row := ⟨h.os, h.tape, h.output, h.size, fun i hi _ => h.block i hi⟩

theorem ListsAt.kp {w w' : World} {B gl ga gll : Nat} {S : Lst} (h : ListsAt w B gl ga gll S) {Q : Nat → Prop} (hk : Kp Q w w') (hQ : ∀ k c T, Q k → k < w.heap.size → Blk w k c T → T = 28) : ListsAt w' B gl ga gll S := by
  have nq : ∀ {k : Nat} {c : Array Value} {T : TypeId}, Blk w k c T → T ≠ 28 → Blk w' k c T := fun hb hT => hk.blk hb (fun hq => hT (hQ _ _ _ hq hb.lt hb))
  obtain ⟨gs, fv, a⟩ := h.arena
  exact ⟨nq h.lists (by decide), nq h.heads (by decide), ⟨gs, fv, nq a.arena (by decide), nq a.slots (by decide), a.freed.keep (fun g c _ hb => nq hb (by decide)), a.ga_le, a.gs_le, a.small⟩, h.gl_le, h.gll_le, h.few⟩

theorem Kp.of_below' {w w' : World} (h : Below w.heap.size w w') (S : Nat → Prop) : Kp S w w' := ⟨h.os, h.tape, h.output, h.size, fun k hk _ => h.block k hk⟩

theorem lists_slots {w : World} (p : Option Addr) (tag : Int) :
    Calls Try.prog 30 #[.pointer p, .int .i64 tag] w fun e w' =>
      e = .returned (.func (.func 48) #[] #[.pointer (some ⟨w.heap.size, 0, none⟩), .pointer (some ⟨w.heap.size + 1, 0, none⟩)]) ∧ w' = (w.alloc (.cells #[.pointer p] 26)).alloc (.cells #[.int .i64 tag] 3) := by
  go_enter Try.func30, Try.ntmps30
  go_wp2
  go_ret
  exact ⟨rfl, rfl⟩

section
variable {w : World} {B gl ga gll : Nat} {S : Lst} (h : ListsAt w B gl ga gll S) (hw : S.wf) (tag : Int) (Bl Bt Bo : Nat)
  (hbl : Blk w Bl #[.pointer (some ⟨gl, 0, none⟩)] 26) (hbt : Blk w Bt #[.int .i64 tag] 3) (ho : ∀ c T, Blk w Bo c T → T = 28) (xs : List Int) (hx : S.chain (S.front tag) xs)
include h hw hbl hbt ho hx
set_option maxRecDepth 100000 in
set_option maxHeartbeats 2000000 in
theorem lists_slots1 (n : Nat) (hn : 1 ≤ n) : SeqStopsK Fence.wide n Try.prog 48 #[.pointer (some ⟨Bl, 0, none⟩), .pointer (some ⟨Bt, 0, none⟩)] (fun x : Int => #[Value.int .i32 x])
    (Kp (fun k => k = Bo ∨ w.heap.size ≤ k)) (fun ys => ys = xs) (fun pre => pre <+: xs) xs.length w := by
  intro l J Jx W hW hJ hJx hY h0
  have HQ := hid (show ∀ W, Kp (fun k => k = Bo ∨ w.heap.size ≤ k) w W → ListsAt W B gl ga gll S ∧ W.cell? ⟨Bl, 0, none⟩ = some (.pointer (some ⟨gl, 0, none⟩)) ∧ W.cell? ⟨Bt, 0, none⟩ = some (.int .i64 tag) from fun W hk => by
    have hno : ∀ {k : Nat} {c : Array Value} {T : TypeId}, Blk w k c T → T ≠ 28 → Blk W k c T := fun hb hT => hk.blk hb (fun hq => by
      rcases hq with rfl | hq
      · exact hT (ho _ _ hb)
      · exact absurd hb.lt (Nat.not_lt.2 hq))
    refine ⟨h.kp hk fun k c T hq hlt hb => ?_, (hno hbl (by decide)).cell 0 rfl, (hno hbt (by decide)).cell 0 rfl⟩
    rcases hq with rfl | hq
    · exact ho c T hb
    · exact absurd hlt (Nat.not_lt.2 hq))
  have HW0 := hid (Kp.of_below' hW (fun k => k = Bo ∨ w.heap.size ≤ k))
  obtain ⟨hL, hcl, hct⟩ := HQ.out W HW0.out
  have HF := hid (callsIn_wide (n := n - 1).2 (ilist_Front hL tag))
  have HX := hid hx
  have HJ := hid hJ
  have HY := hid hY
  have HA := hid (fun (W : World) (hL : ListsAt W B gl ga gll S) (i : Int) (hi : I32 i) => callsIn_wide (n := n - 1).2 (ilist_After hL hw.nodes i hi))
  clear hL hx hJ hY h hbl hbt ho hw hJx
  refine callsIn_of_wp Try.func48 rfl trivial ?_ rfl
  simp only [Try.ntmps48, List.size_toArray, List.length_cons, List.length_nil, Nat.reduceAdd, Nat.reduceSub, Array.replicate_succ, Array.replicate_zero, List.push_toArray, List.append_toArray, List.nil_append, List.cons_append]
  gi_wp2_with (refine ⟨trivial, ?_⟩; gi_at_call 14; go_must (refine HF.out.mono ?_; rintro e w' ⟨rfl, rfl⟩))
  clear hcl hct
  gi_loopw [4] (fun v wr => ∃ (pre rest : List Int) (i : Int), v = .int .i32 i ∧ xs = pre ++ rest ∧ S.chain i rest ∧ J pre wr ∧ Kp (fun k => k = Bo ∨ w.heap.size ≤ k) w wr) (fun v wr => S.left v)
  case atStart => exact ⟨[], xs, S.front tag, rfl, rfl, HX.out, h0, HW0.out⟩
  case round =>
    obtain ⟨pre, rest, i, rfl, hxs, hch, hJs, hk⟩ := hrel
    cases rest with
    | nil =>
      obtain rfl : i = 0 := hch
      have HXS := hid hxs
      clear hxs
      gi_wp2
      refine ⟨fun _ h => (by cases h), ?_⟩
      gi_wp2
      go_end0
      exact ⟨⟨_, rfl⟩, .inl ⟨pre, by rw [HXS.out, List.append_nil], hJs⟩⟩
    | cons x rest =>
      have HL1 := hid (Lst.left_eq hch .i32)
      obtain ⟨rfl, hx0, hxi, hr⟩ := hch
      have hne : (i != 0) = true := by simp [hx0]
      have hlen : pre.length < xs.length := by rw [hxs]; simp
      obtain ⟨fn, tmps, assign, body, hy, hR⟩ := HY.out pre i wr hJs hlen
      have HXS := hid hxs
      have HR := hid hR
      have HC := hid hr
      have HK := hid hk
      have HI := hid hxi
      clear hxs hR hr hlen hk hxi hx0
      gi_wp2
      refine HR.out.mono ?_
      rintro e W3 (⟨rfl, hJ3, hk3⟩ | ⟨rfl, hJx3⟩)
      · have hk4 : Kp (fun k => k = Bo ∨ w.heap.size ≤ k) w W3 := HK.out.trans hk3 (fun _ _ h => h)
        obtain ⟨hL3, hcl, hct⟩ := HQ.out W3 hk4
        have HK4 := hid hk4
        have HL3 := hid hL3
        clear hk3 hk4 hL3
        gi_wp2_with (refine ⟨trivial, ?_⟩; gi_at_call 22; go_must (refine (HA.out W3 HL3.out i HI.out).mono ?_; rintro e W4 ⟨rfl, hb4⟩))
        go_roundw
        case rel => exact ⟨pre ++ [i], rest, S.after i, rfl, by rw [HXS.out]; simp, HC.out, HJ.out _ W3 W4 none hJ3 (grown_below hb4 none) (fun r e => by cases e), HK4.out.trans (Kp.of_below' hb4 (fun k => k = Bo ∨ w.heap.size ≤ k)) (fun _ _ h => h)⟩
        case measure => rw [Lst.left_eq HC.out .i32, HL1.out]; simp
      · gi_wp2
        go_end0
        exact ⟨⟨_, rfl⟩, .inr ⟨pre ++ [i], ⟨rest, by rw [HXS.out]; simp⟩, hJx3⟩⟩
end

end Go.Proofs.Ytfcfbfingnpnoaa
