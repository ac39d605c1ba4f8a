/-
  The arena: a slot is freed.
-/
import Derived.Test.YtfcfbfingnpnoaaArena
set_option linter.unusedVariables false
set_option linter.unusedSimpArgs false
namespace Go.Proofs.Ytfcfbfingnpnoaa
open Go.RowKit

theorem ArenaAt.behindRow {W w1 : World} {B ga : Nat} {A : Arn} {gs : Nat} {fv : Value} (h : ArenaAt W B ga A gs fv) (hk : KT B [21] W w1) :
    w1.cell? ⟨ga, 1, none⟩ = some fv ∧ w1.cell? ⟨ga, 3, none⟩ = some (.int .i64 A.live) ∧ ∀ i, w1.frozen? ⟨ga, i, none⟩ = false :=
  ⟨(hk.blk h.arena (by decide)).cell 1 rfl, (hk.blk h.arena (by decide)).cell 3 rfl, (hk.blk h.arena (by decide)).frozen⟩

def Arn.free (A : Arn) (i : Int) : Arn := if A.is i then { slots := A.slots.set i.toNat Slot.zero, freed := A.freed ++ [i], next := A.next, live := A.live - 1 } else A
set_option maxRecDepth 100000 in
set_option maxHeartbeats 1600000 in
theorem arena_Free {w : World} {B ga : Nat} {A : Arn} (hA : ArenaIs w B ga A) (hB : B ≤ w.heap.size) (i : Int) (hi : I32 i) (hl : 1 ≤ A.live) (hl2 : A.live ≤ 1000000) (hfl : A.freed.length ≤ 1000000) : Calls Try.prog 39 #[.pointer (some ⟨ga, 0, none⟩), .int .i32 i] w fun e w' =>
    e = .returned (.bool (A.is i)) ∧ ArenaIs w' B ga (A.free i) ∧ KT B [57, 62, 21] w w' := by
  cases e : A.is i with
  | false =>
    have e2 : A.free i = A := by simp [Arn.free, e]
    rw [e2]
    clear e2
    have hIs := fun W (hb : Below w.heap.size w W) => arena_Is (hA.keep hb) i hi
    rw [e] at hIs
    have HIs := hid hIs
    clear hIs e
    go_enter Try.func39, Try.ntmps39
    go_wp2_with (go_at_call 49; refine (HIs.out _ (by with_reducible repeat (first | exact Below.refl _ _ | assumption | refine Below.drew ?_ | refine Below.alloc ?_ (by simp; try omega) _ | refine Below.setCell ?_ (by simp; try omega) _ | refine pw_drewN ?_ _))).mono ?_; rintro e w' ⟨rfl, rfl⟩)
    go_wp2
    go_ret
    exact ⟨rfl, hA, KT.refl _ _ _⟩
  | true =>
    obtain ⟨i0, hi0, hz0, hz1, hz2⟩ := info_parts Try.info_i32
    obtain ⟨h1, h2, h3⟩ := Arn.is_lt e
    obtain ⟨n, rfl⟩ := Int.eq_ofNat_of_zero_le (Int.le_of_lt h1)
    have e2 : A.free (n : Int) = { slots := A.slots.set n Slot.zero, freed := A.freed ++ [(n : Int)], next := A.next, live := A.live - 1 } := by
      unfold Arn.free
      rw [if_pos e, Int.toNat_natCast]
    rw [e2]
    clear e2
    rw [Int.toNat_natCast] at h3
    have hIs := arena_Is hA (n : Int) hi
    rw [e] at hIs
    have HIs := hid hIs
    obtain ⟨gs, fv, h⟩ := hA
    have h0 := h.c0
    have h1 := h.c1
    have h3' := h.c3
    have hsm := h.small
    generalize hNN : (A.slot n).n = N at *
    obtain ⟨b0, b1, b2, b3, b4, b5⟩ := N
    have k0 := h.sc h3 0 (by omega) rfl
    have k1 := h.sc h3 1 (by omega) rfl
    have k2 := h.sc h3 2 (by omega) rfl
    have k3 := h.sc h3 3 (by omega) rfl
    have k4 := h.sc h3 4 (by omega) rfl
    have k5 := h.sc h3 5 (by omega) rfl
    have k6 := h.sc h3 6 (by omega) rfl
    simp only [Nat.add_zero] at k0
    dsimp only at k0 k1 k2 k3 k4 k5 k6
    have hfs := h.fs
    have hfa := h.fa
    have hne := h.ne
    have hlt := h.arena.lt
    have hlt2 := h.slots.lt
    have HA := hid h
    have HS := hid h3
    have hp := h.put7 h3 0 0 0 0 0 0 false
    have HP := hid (hp.1.keep (Below.alloc (Below.refl _ _) (Nat.le_refl _) (.cells #[.int .i32 (n : Int)] 21)))
    have HP2 := hid hp.2
    clear h h3 hIs e hNN hp
    generalize hm : A.slots.length = m at *
    generalize hlv2 : A.live = lv at *
    have HM := hid hm
    have HL := hid hlv2
    clear hm hlv2
    go_enter Try.func39, Try.ntmps39
    go_wp2_with (first | (go_at_call 49; refine HIs.out.mono ?_; rintro e w' ⟨rfl, rfl⟩) | (at_builtin; go_must (refine wpList_append_any _ rfl (.tmp 20) (.tmp 22) 28 rfl 21 i0 _ 1 4 Try.underlying28 hi0 hz0 hz1 hz2 rfl (by decide) B fv A.freed.length (A.freed.map (Value.int .i32)) rfl HP.out.freed ⟨w.heap.size, 0, none⟩ 1 1 [.int .i32 (n : Int)] rfl rfl ?q2 ?q3 ?q4 ?q5 ?q6 ?k); case' k => go_must (intro A1 cp w1 hr1 hg1 hk1 hb1 hcp; clear hg1 hb1 hcp; obtain ⟨k1', k3', hfa'⟩ := HP.out.behindRow hk1; dsimp only at k3'; have HK := hid hk1; have HR := hid hr1; clear hk1 hr1 h0 h1 h3' hfa hfs k0 k1 k2 k3 k4 k5 k6)))
    case q2 => with_reducible exact new1 (by simp)
    case q3 => simp [Value.oneCell']
    case q4 => unfold maxLen; omega
    case q5 => omega
    case q6 => simp; omega
    go_ret
    obtain rfl := HM.out
    obtain rfl := HL.out
    have b1 := HK.out.blk HP.out.arena (by decide)
    have b2 := HK.out.blk HP.out.slots (by decide)
    have q1 := ((((HP2.out.mono (Nat.le_refl _) (by simp)).alloc (.cells #[.int .i32 (n : Int)] 21)).trans HK.out (Nat.le_refl _) (by simp)) : KT B [57, 62, 21] w w1)
    have q2 := q1.set b1 (by simp) HP.out.ga_le 1 (.slice A1 (A.freed.length + 1) cp)
    have q3 := q2.set (b1.set 1 _) (by simp) HP.out.ga_le 3 (.int .i64 ((A.live : Int) - 1))
    have hlen : (A.freed ++ [(n : Int)]).length = A.freed.length + 1 := by simp
    have hgne : gs ≠ ga := Ne.symm hne
    refine ⟨rfl, ⟨gs, .slice A1 (A.freed.length + 1) cp, ?_, ?_, ?_, HP.out.ga_le, HP.out.gs_le, ?_⟩, q3⟩
    · refine ((b1.set 1 _).set 3 _).cast ?_
      simp
      omega
    · exact (b2.oth hgne _).oth hgne _
    · show Row _ B 21 1 _ (A.freed ++ [(n : Int)]).length ((A.freed ++ [(n : Int)]).map (Value.int .i32))
      rw [hlen, List.map_append]
      refine HR.out.keep fun g c hg hb => ?_
      have hne2 : g ≠ ga := by
        rintro rfl
        have := (hb.inj b1).2
        revert this
        decide
      exact (hb.oth hne2 _).oth hne2 _
    · simpa using hsm

end Go.Proofs.Ytfcfbfingnpnoaa
