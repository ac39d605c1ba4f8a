/-
  Layer 4's statements: how they begin.
-/
import Derived.Test.YtfcfbfingnpnoaaRef3T
import Derived.Test.YtfcfbfingnpnoaaLawNew
import Derived.Test.YtfcfbfingnpnoaaArenaF
set_option linter.unusedVariables false
set_option linter.unusedSimpArgs false
namespace Go.Proofs.Ytfcfbfingnpnoaa
open Go.RowKit

def bgB (A : Arn) : Arn := if A.next < A.slots.length then { A with slots := A.slots.set A.next ⟨Nd.zero, true⟩, next := A.next + 1, live := A.live + 1 } else { A with slots := (A.slots ++ List.replicate A.slots.length Slot.zero).set A.next ⟨Nd.zero, true⟩, next := A.next + 1, live := A.live + 1 }
def bgA : Nat → Arn
  | 0 => Arn.new 4
  | k + 1 => (bgB (bgA k)).put (k + 1) ⟨10 * k, k, k, 0, 0, 0⟩
def lenB (k : Nat) : Int := if k < 5 then 5 else 10
theorem six {p : Nat → Prop} (h0 : p 0) (h1 : p 1) (h2 : p 2) (h3 : p 3) (h4 : p 4) (h5 : p 5) (k : Nat) (hk : k < 6) : p k := by
  have : k = 0 ∨ k = 1 ∨ k = 2 ∨ k = 3 ∨ k = 4 ∨ k = 5 := by omega
  rcases this with rfl | rfl | rfl | rfl | rfl | rfl <;> assumption
theorem bgA_next (k : Nat) (hk : k < 6) : (bgA k).next = k + 1 := six (p := fun k => (bgA k).next = k + 1) (by decide) (by decide) (by decide) (by decide) (by decide) (by decide) k hk
theorem bgA_freed (k : Nat) (hk : k < 6) : (bgA k).freed = [] := six (p := fun k => (bgA k).freed = []) (by decide) (by decide) (by decide) (by decide) (by decide) (by decide) k hk
theorem bgA_live (k : Nat) (hk : k < 6) : (bgA k).live ≤ 1000000 := six (p := fun k => (bgA k).live ≤ 1000000) (by decide) (by decide) (by decide) (by decide) (by decide) (by decide) k hk
theorem bgA_len (k : Nat) (hk : k < 6) : (bgA k).next ≤ (bgA k).slots.length ∧ (bgA k).slots.length ≤ 10 := six (p := fun k => (bgA k).next ≤ (bgA k).slots.length ∧ (bgA k).slots.length ≤ 10) (by decide) (by decide) (by decide) (by decide) (by decide) (by decide) k hk

section
variable {W : World} {B ga : Nat} {k : Nat} (hk : k < 6)
include hk
theorem bg_Alloc (h : ArenaIs W B ga (bgA k)) (hB : B ≤ W.heap.size) : Calls Try.prog 9 #[.pointer (some ⟨ga, 0, none⟩)] W fun e w' => e = .returned (.int .i32 ((k : Int) + 1)) ∧ ArenaIs w' B ga (bgB (bgA k)) ∧ KT B [57, 62] W w' := by
  have hn := bgA_next k hk
  have hl := bgA_len k hk
  unfold bgB
  by_cases hc : (bgA k).next < (bgA k).slots.length
  · rw [if_pos hc]
    have := arena_Alloc_next h (bgA_freed k hk) hc (bgA_live k hk)
    rw [hn] at this ⊢
    exact this
  · rw [if_neg hc]
    have := arena_Alloc_grow h hB (bgA_freed k hk) (by omega) (by omega) (bgA_live k hk) (by omega)
    rw [hn] at this ⊢
    exact this
theorem bg_Set (h : ArenaIs W B ga (bgB (bgA k))) : Calls Try.prog 36 #[.pointer (some ⟨ga, 0, none⟩), .int .i32 ((k : Int) + 1), .agg #[.int .u64 (10 * (k : Int)), .int .u64 k, .int .i64 k, .int .i64 0, .int .i32 0, .int .i32 0]] W fun e w' => (∃ b, e = .returned (.bool b)) ∧ ArenaIs w' B ga (bgA (k + 1)) ∧ KT B [62] W w' :=
  (arena_Set h ((k : Int) + 1) (by unfold I32; omega) (10 * (k : Int)) k k 0 0 0).mono fun e w' ⟨h1, h2, h3⟩ => ⟨⟨_, h1⟩, h2, h3⟩
theorem bg_rAlloc {g3 c3 : Nat} (hn : RN W g3 (k + 1) c3) : Calls Try.prog 37 #[.agg #[.int .i64 (lenB k), .int .i64 k, .slice none 0 0, .slice (some ⟨g3, 0, none⟩) (k + 1) c3]] W fun e w' =>
    ∃ g' c', e = .returned (.tuple #[.agg #[.int .i64 (lenB (k + 1)), .int .i64 ((k : Int) + 1), .slice none 0 0, .slice (some ⟨g', 0, none⟩) (k + 2) c'], .int .i32 ((k : Int) + 1)]) ∧ RN w' g' (k + 2) c' ∧ Below W.heap.size W w' := by
  by_cases hc : lenB k ≤ (k : Int) + 1
  · have e : lenB (k + 1) = 2 * lenB k := six (p := fun k => lenB k ≤ (k : Int) + 1 → lenB (k + 1) = 2 * lenB k) (by decide) (by decide) (by decide) (by decide) (by decide) (by decide) k hk hc
    have := ref3_Alloc_double hn (by omega) (by omega) (ever := k) (by omega) (x0 := lenB k) (by unfold lenB; split <;> omega) hc
    rw [e]
    exact this
  · have e : lenB (k + 1) = lenB k := six (p := fun k => ¬ lenB k ≤ (k : Int) + 1 → lenB (k + 1) = lenB k) (by decide) (by decide) (by decide) (by decide) (by decide) (by decide) k hk hc
    have := ref3_Alloc_same hn (by omega) (by omega) (ever := k) (by omega) (x0 := lenB k) (by unfold lenB; split <;> omega) hc
    rw [e]
    exact this
theorem bg_rSet {g3 c3 : Nat} (hn : RN W g3 (k + 2) c3) : Calls Try.prog 38 #[.agg #[.int .i64 (lenB (k + 1)), .int .i64 ((k : Int) + 1), .slice none 0 0, .slice (some ⟨g3, 0, none⟩) (k + 2) c3], .int .i32 ((k : Int) + 1), .agg #[.int .u64 (10 * (k : Int)), .int .u64 k, .int .i64 k, .int .i64 0, .int .i32 0, .int .i32 0]] W fun e w' =>
    ∃ g' c', e = .returned (.tuple #[.agg #[.int .i64 (lenB (k + 1)), .int .i64 ((k : Int) + 1), .slice none 0 0, .slice (some ⟨g', 0, none⟩) (k + 2) c'], .bool true]) ∧ RN w' g' (k + 2) c' ∧ Below W.heap.size W w' :=
  ref3_Set (fs := []) (A2 := none) (c2 := 0) (Row.nil _ _ _ _) (by simp) hn (by omega) (k + 1) (by omega) (ever := (k : Int) + 1) (by omega) (by simp [isR]) (10 * (k : Int)) k k 0 0 0
end
theorem ref3_New4 (w : World) : Calls Try.prog 12 #[.int .i64 4] w fun e w' =>
    ∃ g, e = .returned (.agg #[.int .i64 5, .int .i64 0, .slice none 0 0, .slice (some ⟨g, 0, none⟩) 1 1]) ∧ RN w' g 1 1 ∧ Below w.heap.size w w' := by
  have hmk : ∀ w : World, (Instr.makeSlice 29 (.int .i64 1) (.int .i64 1)).run Try.prog w = .ok (.slice (some ⟨w.heap.size, 0, none⟩) 1 1) (w.alloc (.cells #[.int .u64 0, .int .u64 0, .int .i64 0, .int .i64 0, .int .i32 0, .int .i32 0] 84)) := fun _ => by kernel_rfl
  have hfin := fun (W : World) (g : Nat) (hg : g = W.heap.size) => (show RN (W.alloc (.cells #[.int .u64 0, .int .u64 0, .int .i64 0, .int .i64 0, .int .i32 0, .int .i32 0] 84)) g 1 1 from ⟨_, Blk.new' W _ _ g hg, by omega, by simp [maxLen], by simp, node0_one⟩)
  have HF := hid hfin
  clear hfin
  go_enter Try.func12, Try.ntmps12
  go_wp2
  exact bodyPost_ret (v := .agg #[.int .i64 5, .int .i64 0, .slice none 0 0, .slice (some ⟨w.heap.size + 1, 0, none⟩) 1 1]) (by simp [results, Try.results12, go_sem]) rfl ⟨w.heap.size + 1, rfl, HF.out _ _ (by simp), (by with_reducible repeat (first | exact Below.refl _ _ | assumption | refine Below.drew ?_ | refine Below.alloc ?_ (by simp; try omega) _ | refine Below.setCell ?_ (by simp; try omega) _ | refine pw_drewN ?_ _))⟩


theorem RN.kt {w w' : World} {g n c : Nat} (h : RN w g n c) {B : Nat} {Ts : List TypeId} (hb : KT B Ts w w') (hT : 84 ∉ Ts) : RN w' g n c := by
  obtain ⟨cur, h1, h2⟩ := h
  exact ⟨cur, hb.blk h1 hT, h2⟩
structure BG (w wr : World) (B ga b4 b6 : Nat) (A : Arn) (k g3 c3 : Nat) : Prop where
  arena : ArenaIs wr B ga A
  ref : Blk wr b6 #[.int .i64 (lenB k), .int .i64 k, .slice none 0 0, .slice (some ⟨g3, 0, none⟩) (k + 1) c3] 31
  rn : RN wr g3 (k + 1) c3
  res : Blk wr b4 #[.int .i64 0, .int .i64 0, .slice none 0 0, .slice none 0 0, .slice none 0 0] 34
  le : B ≤ b6
  old : B = w.heap.size
  bel : Below w.heap.size w wr
section
variable {w wr W : World} {B ga b4 b6 : Nat} {A : Arn} {k g3 c3 : Nat} (h : BG w wr B ga b4 b6 A k g3 c3)
include h
theorem BG.kt {A' : Arn} {Ts : List TypeId} (hk : KT B Ts wr W) (hT : Ts = [57, 62] ∨ Ts = [62] ∨ Ts = [57, 62, 21]) (hA : ArenaIs W B ga A') : BG w W B ga b4 b6 A' k g3 c3 := by
  have e1 : 31 ∉ Ts := by rcases hT with rfl | rfl | rfl <;> decide
  have e2 : 84 ∉ Ts := by rcases hT with rfl | rfl | rfl <;> decide
  have e3 : 34 ∉ Ts := by rcases hT with rfl | rfl | rfl <;> decide
  have hb : Below w.heap.size wr W := h.old ▸ hk.below (h.old ▸ h.bel.size)
  exact ⟨hA, hk.blk h.ref e1, h.rn.kt hk e2, hk.blk h.res e3, h.le, h.old, h.bel.trans hb⟩
theorem BG.keep (hb : Below wr.heap.size wr W) : BG w W B ga b4 b6 A k g3 c3 :=
  ⟨h.arena.keep hb, h.ref.below hb h.ref.lt, h.rn.below hb, h.res.below hb h.res.lt, h.le, h.old, h.bel.trans (hb.mono h.bel.size)⟩
theorem BG.put {k' g' c' : Nat} (hn : RN wr g' (k' + 1) c') : BG w ((((wr.setCell ⟨b6, 0, none⟩ (.int .i64 (lenB k'))).setCell ⟨b6, 1, none⟩ (.int .i64 k')).setCell ⟨b6, 2, none⟩ (.slice none 0 0)).setCell ⟨b6, 3, none⟩ (.slice (some ⟨g', 0, none⟩) (k' + 1) c')) B ga b4 b6 A k' g' c' := by
  have hne : g' ≠ b6 := by
    rintro rfl
    obtain ⟨cur, h1, _⟩ := hn
    exact absurd (h1.inj h.ref).2 (by decide)
  have hne4 : b4 ≠ b6 := h.res.ne h.ref (by decide)
  have k0 := (KT.refl B [31] wr).set h.ref (by simp) h.le 0 (.int .i64 (lenB k'))
  have k1 := k0.set (h.ref.set 0 _) (by simp) h.le 1 (.int .i64 k')
  have k2 := k1.set ((h.ref.set 0 _).set 1 _) (by simp) h.le 2 (.slice none 0 0)
  have k3 := k2.set (((h.ref.set 0 _).set 1 _).set 2 _) (by simp) h.le 3 (.slice (some ⟨g', 0, none⟩) (k' + 1) c')
  exact ⟨h.arena.kt k3 (by decide) (by decide) (by decide), ((((h.ref.set 0 _).set 1 _).set 2 _).set 3 _).cast rfl, (((hn.oth hne _).oth hne _).oth hne _).oth hne _, (((h.res.oth hne4 _).oth hne4 _).oth hne4 _).oth hne4 _, h.le, h.old, h.bel.trans (h.old ▸ k3.below (h.old ▸ h.bel.size))⟩
end

theorem bgA_is4 : (bgA 6).is 4 = true := by decide
def bgF : Arn := (bgA 6).free 4
theorem cells5 {w : World} {b : Nat} {v0 v1 v2 v3 v4 : Value} {T : TypeId} (h : Blk w b #[v0, v1, v2, v3, v4] T) : w.cell? ⟨b, 0, none⟩ = some v0 ∧ w.cell? ⟨b, 1, none⟩ = some v1 ∧ w.cell? ⟨b, 2, none⟩ = some v2 ∧ w.cell? ⟨b, 3, none⟩ = some v3 ∧ w.cell? ⟨b, 4, none⟩ = some v4 ∧ ∀ i, w.frozen? ⟨b, i, none⟩ = false :=
  ⟨h.cell 0 rfl, h.cell 1 rfl, h.cell 2 rfl, h.cell 3 rfl, h.cell 4 rfl, h.frozen⟩
theorem bg_Free {W : World} {B ga : Nat} (h : ArenaIs W B ga (bgA 6)) (hB : B ≤ W.heap.size) : Calls Try.prog 39 #[.pointer (some ⟨ga, 0, none⟩), .int .i32 4] W fun e w' =>
    e = .returned (.bool true) ∧ ArenaIs w' B ga bgF ∧ KT B [57, 62, 21] W w' := by
  have := arena_Free h hB 4 (i32_of (by decide)) (by decide) (by decide) (by decide)
  rw [bgA_is4] at this
  exact this
/-- What a beginning hands back. -/
def Begun (w : World) (tags : Int) (e : Ending) (w' : World) : Prop :=
  ∃ ga gl gll gL A2 c2 g3 c3, e = .returned (.tuple #[.pointer (some ⟨ga, 0, none⟩), .pointer (some ⟨gl, 0, none⟩), .agg #[.int .i64 10, .int .i64 6, .slice A2 1 c2, .slice (some ⟨g3, 0, none⟩) 7 c3, .slice (some ⟨gL, 0, none⟩) (many4 tags) (many4 tags)]]) ∧
    ListsAt w' w.heap.size gl ga gll (Lst.new bgF tags) ∧ Row w' 0 21 1 (.slice A2 1 c2) 1 [.int .i32 4] ∧ Blk w' gL (List.replicate (many4 tags) (Value.slice none 0 0)).toArray 28 ∧ Below w.heap.size w w'
theorem begun_of {w wd : World} {B0 gl ga gll gL g3 c2 c3 : Nat} {A2 : Option Addr} {tags : Int} (hl : ListsAt wd w.heap.size gl ga gll (Lst.new bgF tags)) (hr : Row wd B0 21 1 (.slice A2 1 c2) 1 [.int .i32 4]) (hb : Blk wd gL (List.replicate (many4 tags) (Value.slice none 0 0)).toArray 28)
    (hres : Blk wd w.heap.size #[.int .i64 0, .int .i64 0, .slice none 0 0, .slice none 0 0, .slice none 0 0] 34) (hbel : Below w.heap.size w wd) :
    Blk (((((wd.setCell ⟨w.heap.size, 0, none⟩ (.int .i64 10)).setCell ⟨w.heap.size, 1, none⟩ (.int .i64 6)).setCell ⟨w.heap.size, 2, none⟩ (.slice A2 1 c2)).setCell ⟨w.heap.size, 3, none⟩ (.slice (some ⟨g3, 0, none⟩) 7 c3)).setCell ⟨w.heap.size, 4, none⟩ (.slice (some ⟨gL, 0, none⟩) (many4 tags) (many4 tags))) w.heap.size
      #[.int .i64 10, .int .i64 6, .slice A2 1 c2, .slice (some ⟨g3, 0, none⟩) 7 c3, .slice (some ⟨gL, 0, none⟩) (many4 tags) (many4 tags)] 34 ∧
    ListsAt (((((wd.setCell ⟨w.heap.size, 0, none⟩ (.int .i64 10)).setCell ⟨w.heap.size, 1, none⟩ (.int .i64 6)).setCell ⟨w.heap.size, 2, none⟩ (.slice A2 1 c2)).setCell ⟨w.heap.size, 3, none⟩ (.slice (some ⟨g3, 0, none⟩) 7 c3)).setCell ⟨w.heap.size, 4, none⟩ (.slice (some ⟨gL, 0, none⟩) (many4 tags) (many4 tags))) w.heap.size gl ga gll (Lst.new bgF tags) ∧
    Row (((((wd.setCell ⟨w.heap.size, 0, none⟩ (.int .i64 10)).setCell ⟨w.heap.size, 1, none⟩ (.int .i64 6)).setCell ⟨w.heap.size, 2, none⟩ (.slice A2 1 c2)).setCell ⟨w.heap.size, 3, none⟩ (.slice (some ⟨g3, 0, none⟩) 7 c3)).setCell ⟨w.heap.size, 4, none⟩ (.slice (some ⟨gL, 0, none⟩) (many4 tags) (many4 tags))) 0 21 1 (.slice A2 1 c2) 1 [.int .i32 4] ∧
    Blk (((((wd.setCell ⟨w.heap.size, 0, none⟩ (.int .i64 10)).setCell ⟨w.heap.size, 1, none⟩ (.int .i64 6)).setCell ⟨w.heap.size, 2, none⟩ (.slice A2 1 c2)).setCell ⟨w.heap.size, 3, none⟩ (.slice (some ⟨g3, 0, none⟩) 7 c3)).setCell ⟨w.heap.size, 4, none⟩ (.slice (some ⟨gL, 0, none⟩) (many4 tags) (many4 tags))) gL (List.replicate (many4 tags) (Value.slice none 0 0)).toArray 28 ∧
    Below w.heap.size w (((((wd.setCell ⟨w.heap.size, 0, none⟩ (.int .i64 10)).setCell ⟨w.heap.size, 1, none⟩ (.int .i64 6)).setCell ⟨w.heap.size, 2, none⟩ (.slice A2 1 c2)).setCell ⟨w.heap.size, 3, none⟩ (.slice (some ⟨g3, 0, none⟩) 7 c3)).setCell ⟨w.heap.size, 4, none⟩ (.slice (some ⟨gL, 0, none⟩) (many4 tags) (many4 tags))) := by
  have k0 := (KT.refl w.heap.size [34] wd).set hres (by simp) (Nat.le_refl _) 0 (.int .i64 10)
  have k1 := k0.set (hres.set 0 _) (by simp) (Nat.le_refl _) 1 (.int .i64 6)
  have k2 := k1.set ((hres.set 0 _).set 1 _) (by simp) (Nat.le_refl _) 2 (.slice A2 1 c2)
  have k3 := k2.set (((hres.set 0 _).set 1 _).set 2 _) (by simp) (Nat.le_refl _) 3 (.slice (some ⟨g3, 0, none⟩) 7 c3)
  have k4 := k3.set ((((hres.set 0 _).set 1 _).set 2 _).set 3 _) (by simp) (Nat.le_refl _) 4 (.slice (some ⟨gL, 0, none⟩) (many4 tags) (many4 tags))
  exact ⟨(((((hres.set 0 _).set 1 _).set 2 _).set 3 _).set 4 _).cast rfl, ⟨k4.blk hl.lists (by decide), k4.blk hl.heads (by decide), hl.arena.kt k4 (by decide) (by decide) (by decide), hl.gl_le, hl.gll_le, hl.few⟩, (hr.kt k4 (by decide)).mono (Nat.zero_le _), k4.blk hb (by decide), hbel.trans (k4.below hbel.size)⟩
set_option maxRecDepth 100000 in
set_option maxHeartbeats 4000000 in
theorem law_begin (tags : Nat) (ht : tags ≤ 255) (w : World) : Calls Try.prog 24 #[.int .u8 tags] w (Begun w (1 + (tags : Int) % 3)) := by
  have htg : IntKind.i64.wrap (1 + (IntKind.i64.wrap (tags : Int)).tmod 3) = 1 + (tags : Int) % 3 := by
    have a : IntKind.i64.wrap (tags : Int) = (tags : Int) := by rw [IntKind.wrap_i64]; omega
    rw [a, Int.tmod_eq_emod_of_nonneg (by omega), IntKind.wrap_i64]
    omega
  have HTG := hid htg
  clear htg
  go_enter Try.func24, Try.ntmps24
  go_wp2_with fail
  go_must (refine (arena_New w.heap.size (by simp) 4 (by omega) (by omega)).mono ?_)
  rintro e w1 ⟨ga, rfl, h1, k1, _⟩
  have H1 := hid h1
  have K1 := hid k1
  clear h1 k1
  go_wp2_with fail
  go_must (refine (ref3_New4 w1).mono ?_)
  rintro e w2 ⟨g0, rfl, hn2, k2⟩
  have HBG : Hid (BG w (w2.alloc (.cells #[.int .i64 5, .int .i64 0, .slice none 0 0, .slice (some ⟨g0, 0, none⟩) 1 1] 31)) w.heap.size ga w.heap.size w2.heap.size (bgA 0) 0 g0 1) := by
    have hb2 : Below (w.alloc (.cells #[.int .i64 0, .int .i64 0, .slice none 0 0, .slice none 0 0, .slice none 0 0] 34)).heap.size (w.alloc (.cells #[.int .i64 0, .int .i64 0, .slice none 0 0, .slice none 0 0, .slice none 0 0] 34)) w2 := K1.out.trans (k2.mono K1.out.size)
    have hs := hb2.size
    simp at hs
    have hal := Below.alloc (Below.refl w2.heap.size w2) (Nat.le_refl _) (.cells #[.int .i64 5, .int .i64 0, .slice none 0 0, .slice (some ⟨g0, 0, none⟩) 1 1] 31)
    refine ⟨(H1.out.keep k2).keep hal, Blk.new _ _ _, hn2.below hal, ((Blk.new w _ _).below hb2 (by simp)).alloc _, by omega, rfl, ?_⟩
    have hw : Below w.heap.size w (w.alloc (.cells #[.int .i64 0, .int .i64 0, .slice none 0 0, .slice none 0 0, .slice none 0 0] 34)) := (by with_reducible repeat (first | exact Below.refl _ _ | assumption | refine Below.drew ?_ | refine Below.alloc ?_ (by simp; try omega) _ | refine Below.setCell ?_ (by simp; try omega) _ | refine pw_drewN ?_ _))
    exact (hw.trans (hb2.mono (by simp))).trans (hal.mono (by omega))
  clear hn2 k2
  go_wp2
  go_loopw [7] (fun i wr => ∃ k g3 c3 : Nat, k ≤ 6 ∧ i = .int .i64 k ∧ BG w wr w.heap.size ga w.heap.size w2.heap.size (bgA k) k g3 c3) (fun i _ => (6 - (intOf i)).toNat)
  case atStart => exact ⟨0, g0, 1, by omega, rfl, HBG.out⟩
  case round =>
    obtain ⟨k, g3, c3, hk, rfl, hbg⟩ := hrel
    have HG := hid hbg
    clear hbg
    by_cases hlt : k < 6
    · go_wp2_with fail
      go_must (refine (bg_Alloc hlt HG.out.arena HG.out.bel.size).mono ?_)
      rintro e wa ⟨rfl, ha, hka⟩
      have HGa := hid (HG.out.kt hka (.inl rfl) ha)
      clear ha hka
      go_wp2_with fail
      go_must (refine (bg_Set hlt HGa.out.arena).mono ?_)
      rintro e wb ⟨⟨b, rfl⟩, hb, hkb⟩
      have HGb := hid (HGa.out.kt hkb (.inr (.inl rfl)) hb)
      clear hb hkb
      obtain ⟨f0, f1, f2, f3, fF⟩ := cells4 HGb.out.ref
      go_wp2_with fail
      go_must (refine (bg_rAlloc hlt HGb.out.rn).mono ?_)
      rintro e wc ⟨g', c', rfl, hn, hb⟩
      have HGc := hid (HGb.out.keep hb)
      have HNc := hid hn
      clear hb hn f0 f1 f2 f3 fF
      go_wp2_with fail
      go_must (refine (bg_rSet hlt (HNc.out.below (Below.alloc (Below.refl _ _) (Nat.le_refl _) _))).mono ?_)
      rintro e wd ⟨g'', c'', rfl, hn, hb⟩
      have HGd := hid ((HGc.out.keep (Below.alloc (Below.refl _ _) (Nat.le_refl _) _)).keep hb)
      have HNd := hid hn
      clear hb hn
      obtain ⟨f0, f1, f2, f3, fF⟩ := cells4 HGd.out.ref
      have hl := HGd.out.ref.lt
      go_wp2
      go_roundw
      case rel => exact ⟨k + 1, g'', c'', by omega, by go_num, (HGd.out.put (k' := k + 1) HNd.out).keep (Below.alloc (Below.refl _ _) (Nat.le_refl _) _)⟩
      case measure => simp [intOf]; omega
    · obtain rfl : k = 6 := by omega
      go_wp2_with fail
      go_must (refine (bg_Free HG.out.arena HG.out.bel.size).mono ?_)
      rintro e wa ⟨rfl, ha, hka⟩
      have HGa := hid (HG.out.kt hka (.inr (.inr rfl)) ha)
      clear ha hka
      obtain ⟨f0, f1, f2, f3, fF⟩ := cells4 (show Blk wa w2.heap.size #[.int .i64 10, .int .i64 6, .slice none 0 0, .slice (some ⟨g3, 0, none⟩) 7 c3] 31 from HGa.out.ref)
      go_wp2_with fail
      go_must (refine (ref3_Free (w := wa) (x0 := 10) (ever := 6) (g3 := g3) (n3 := 7) (c3 := c3) 4 (i32_of (by decide)) (by omega) (by decide)).mono ?_)
      rintro e wb ⟨A2, c2, rfl, hr, hb⟩
      have HGb := hid (HGa.out.keep hb)
      have HR := hid hr
      clear hr hb f0 f1 f2 f3 fF
      go_wp2
      go_region_with (first | (go_at_call 10; go_must (rw [HTG.out]; refine (ilist_New ((HGb.out.keep (pw_drew (Below.alloc (Below.refl _ _) (Nat.le_refl _) _))).arena) (HGb.out.keep (pw_drew (Below.alloc (Below.refl _ _) (Nat.le_refl _) _))).bel.size (1 + (tags : Int) % 3)).mono ?_; rintro e wc ⟨gl, gll, rfl, hl, hb, _⟩; have HLc := hid hl; have HBc := hid hb; clear hl hb; obtain ⟨f0, f1, f2, f3, fF⟩ := cells4 (((Blk.new wb #[.int .i64 10, .int .i64 6, .slice A2 1 c2, .slice (some ⟨g3, 0, none⟩) 7 c3] 31).drew).below HBc.out (by simp)))) | (go_at_call 11; go_must (refine (ref4_New _ _ _ _ _ _ _ _ _ _).mono ?_; rintro e wd ⟨rfl, hbk, hb⟩; have HBK := hid hbk; have HLd := hid (HLc.out.keep hb); have HRd := hid (((HR.out.below (pw_drew (Below.alloc (Below.refl _ _) (Nat.le_refl _) _))).below HBc.out).below hb); have hres := (((HGb.out.keep (pw_drew (Below.alloc (Below.refl _ _) (Nat.le_refl _) _))).keep HBc.out).keep hb); obtain ⟨m0, m1, m2, m3, m4, mF⟩ := cells5 hres.res; have HRES := hid hres.res; have HBEL := hid hres.bel; clear hbk hb hres f0 f1 f2 f3 fF)))
      all_goals
        go_wp2
        obtain ⟨b1, b2⟩ := begun_of (tags := 1 + (tags : Int) % 3) HLd.out HRd.out HBK.out HRES.out HBEL.out
        refine bodyPost_at (v := .tuple #[.pointer (some ⟨ga, 0, none⟩), .pointer (some ⟨gl, 0, none⟩), .agg #[.int .i64 10, .int .i64 6, .slice A2 1 c2, .slice (some ⟨g3, 0, none⟩) 7 c3, .slice (some ⟨wc.heap.size + 2, 0, none⟩) (many4 (1 + (tags : Int) % 3)) (many4 (1 + (tags : Int) % 3))]]) b1 (fun W hW => ?_) rfl ⟨ga, gl, gll, _, A2, c2, g3, c3, rfl, b2⟩
        obtain ⟨c0, c1, c2, c3, c4, _⟩ := cells5 hW
        simp [results, Try.results24, go_sem, c0, c1, c2, c3, c4]

end Go.Proofs.Ytfcfbfingnpnoaa
