/-
  Lists: a slot's node is changed by a function value.
-/
import Derived.Test.YtfcfbfingnpnoaaIlist
set_option linter.unusedVariables false
set_option linter.unusedSimpArgs false
namespace Go.Proofs.Ytfcfbfingnpnoaa
open Go.RowKit
attribute [local go_sem] field_nd0 field_nd1 field_nd2 field_nd3 field_nd4 field_nd5

theorem node_cells {w : World} {p : Nat} {a0 a1 a2 a3 a4 a5 : Int} {T : TypeId} (hb : Blk w p #[.int .u64 a0, .int .u64 a1, .int .i64 a2, .int .i64 a3, .int .i32 a4, .int .i32 a5] T) :
    w.cell? ⟨p, 0, none⟩ = some (.int .u64 a0) ∧ w.cell? ⟨p, 1, none⟩ = some (.int .u64 a1) ∧ w.cell? ⟨p, 2, none⟩ = some (.int .i64 a2) ∧ w.cell? ⟨p, 3, none⟩ = some (.int .i64 a3) ∧ w.cell? ⟨p, 4, none⟩ = some (.int .i32 a4) ∧ w.cell? ⟨p, 5, none⟩ = some (.int .i32 a5) ∧ ∀ i, w.frozen? ⟨p, i, none⟩ = false :=
  ⟨hb.cell 0 rfl, hb.cell 1 rfl, hb.cell 2 rfl, hb.cell 3 rfl, hb.cell 4 rfl, hb.cell 5 rfl, hb.frozen⟩
theorem Only.refl (g : Nat) (w : World) : Only g w w := ⟨Kp.refl _ w, fun _ c _ h => ⟨c, h⟩⟩
theorem Only.set {g : Nat} {a w : World} (h : Only g a w) (i : Nat) (v : Value) : Only g a (w.setCell ⟨g, i, none⟩ v) :=
  ⟨h.kp.setCell (fun _ => rfl) v, fun k c T hb => by obtain ⟨c', h'⟩ := blk_of_setCell hb; exact h.typed k c' T h'⟩
theorem Only.drew {g : Nat} {a w : World} (h : Only g a w) : Only g a w.drew := ⟨h.kp.drew, h.typed⟩

set_option maxRecDepth 100000 in
set_option maxHeartbeats 400000 in
theorem lay1 {w : World} {p p1 p2 p3 : Nat} {a0 a1 a2 a3 a4 a5 : Int} (tag prev next : Int) (ht : 0 ≤ tag ∧ tag ≤ 100) (hb : Blk w p #[.int .u64 a0, .int .u64 a1, .int .i64 a2, .int .i64 a3, .int .i32 a4, .int .i32 a5] 60)
    (c1 : w.cell? ⟨p1, 0, none⟩ = some (.int .i64 tag)) (c2 : w.cell? ⟨p2, 0, none⟩ = some (.int .i32 prev)) (c3 : w.cell? ⟨p3, 0, none⟩ = some (.int .i32 next)) :
    Calls Try.prog 50 #[.pointer (some ⟨p, 0, none⟩), .pointer (some ⟨p1, 0, none⟩), .pointer (some ⟨p2, 0, none⟩), .pointer (some ⟨p3, 0, none⟩)] w fun e w' =>
      e = .returned (.tuple #[]) ∧ Blk w' p #[.int .u64 a0, .int .u64 a1, .int .i64 a2, .int .i64 (tag + 1), .int .i32 prev, .int .i32 next] 60 ∧ Only p w w' := by
  obtain ⟨k0, k1, k2, k3, k4, k5, hf⟩ := node_cells hb
  obtain ⟨ht1, ht2⟩ := ht
  have HB := hid hb
  clear hb
  go_enter Try.func50, Try.ntmps50
  go_wp2
  go_region
  go_end0
  exact ⟨rfl, (((HB.out.set 3 _).set 4 _).set 5 _).cast rfl, ((((Only.refl p w).set 3 _).set 4 _).set 5 _).drew⟩

set_option maxRecDepth 100000 in
set_option maxHeartbeats 400000 in
theorem rem1 {w : World} {p : Nat} {a0 a1 a2 a3 a4 a5 : Int} (hb : Blk w p #[.int .u64 a0, .int .u64 a1, .int .i64 a2, .int .i64 a3, .int .i32 a4, .int .i32 a5] 60) :
    Calls Try.prog 35 #[.pointer (some ⟨p, 0, none⟩)] w fun e w' =>
      e = .returned (.tuple #[]) ∧ Blk w' p #[.int .u64 a0, .int .u64 a1, .int .i64 a2, .int .i64 0, .int .i32 0, .int .i32 0] 60 ∧ Only p w w' := by
  obtain ⟨k0, k1, k2, k3, k4, k5, hf⟩ := node_cells hb
  have HB := hid hb
  clear hb
  go_enter Try.func35, Try.ntmps35
  go_wp2
  go_end0
  exact ⟨rfl, (((HB.out.set 3 _).set 4 _).set 5 _).cast rfl, ((((Only.refl p w).set 3 _).set 4 _).set 5 _)⟩

set_option maxRecDepth 100000 in
set_option maxHeartbeats 400000 in
theorem join1 {w : World} {p p1 : Nat} {a0 a1 a2 a3 a4 a5 : Int} (x : Int) (hb : Blk w p #[.int .u64 a0, .int .u64 a1, .int .i64 a2, .int .i64 a3, .int .i32 a4, .int .i32 a5] 60) (c1 : w.cell? ⟨p1, 0, none⟩ = some (.int .i32 x)) :
    Calls Try.prog 51 #[.pointer (some ⟨p, 0, none⟩), .pointer (some ⟨p1, 0, none⟩)] w fun e w' =>
      e = .returned (.tuple #[]) ∧ Blk w' p #[.int .u64 a0, .int .u64 a1, .int .i64 a2, .int .i64 a3, .int .i32 a4, .int .i32 x] 60 ∧ Only p w w' := by
  obtain ⟨k0, k1, k2, k3, k4, k5, hf⟩ := node_cells hb
  have HB := hid hb
  clear hb
  go_enter Try.func51, Try.ntmps51
  go_wp2
  go_end0
  exact ⟨rfl, (HB.out.set 5 _).cast rfl, (Only.refl p w).set 5 _⟩

set_option maxRecDepth 100000 in
set_option maxHeartbeats 400000 in
theorem join2 {w : World} {p p1 : Nat} {a0 a1 a2 a3 a4 a5 : Int} (x : Int) (hb : Blk w p #[.int .u64 a0, .int .u64 a1, .int .i64 a2, .int .i64 a3, .int .i32 a4, .int .i32 a5] 60) (c1 : w.cell? ⟨p1, 0, none⟩ = some (.int .i32 x)) :
    Calls Try.prog 52 #[.pointer (some ⟨p, 0, none⟩), .pointer (some ⟨p1, 0, none⟩)] w fun e w' =>
      e = .returned (.tuple #[]) ∧ Blk w' p #[.int .u64 a0, .int .u64 a1, .int .i64 a2, .int .i64 a3, .int .i32 x, .int .i32 a5] 60 ∧ Only p w w' := by
  obtain ⟨k0, k1, k2, k3, k4, k5, hf⟩ := node_cells hb
  have HB := hid hb
  clear hb
  go_enter Try.func52, Try.ntmps52
  go_wp2
  go_end0
  exact ⟨rfl, (HB.out.set 4 _).cast rfl, (Only.refl p w).set 4 _⟩

set_option maxRecDepth 100000 in
set_option maxHeartbeats 800000 in
theorem with_lay {w : World} {B gl ga gll : Nat} {S : Lst} (h : ListsAt w B gl ga gll S) (hB : B ≤ w.heap.size) (i : Int) (hi : I32 i) {p1 p2 p3 : Nat} (tag prev next : Int) (ht : 0 ≤ tag ∧ tag ≤ 100) (c1 : w.cell? ⟨p1, 0, none⟩ = some (.int .i64 tag)) (c2 : w.cell? ⟨p2, 0, none⟩ = some (.int .i32 prev)) (c3 : w.cell? ⟨p3, 0, none⟩ = some (.int .i32 next)) :
    Calls Try.prog 34 #[.pointer (some ⟨gl, 0, none⟩), .int .i32 i, .func (.func 50) #[] #[.pointer (some ⟨p1, 0, none⟩), .pointer (some ⟨p2, 0, none⟩), .pointer (some ⟨p3, 0, none⟩)]] w fun e w' =>
      e = .returned (.tuple #[]) ∧ ListsAt w' B gl ga gll { S with A := S.A.put i { S.A.at_ i with tag := tag + 1, prev := prev, next := next } } ∧ KT B [62] w w' := by
  have hAt := fun W (hb : Below w.heap.size w W) => arena_At (h.keep hb).arena i hi
  have hSet := fun W (hb : Below w.heap.size w W) => arena_Set (h.keep hb).arena i hi
  have hc := fun W (hb : Below w.heap.size w W) => (h.keep hb).c0
  have h0 := h.c0
  have HT := hid hAt
  have HS := hid hSet
  have HC := hid hc
  have HL := hid h
  have htriv : True := trivial
  have HT1 := hid ht
  have HC1 := hid c1
  have HC2 := hid c2
  have HC3 := hid c3
  clear ht c1 c2 c3
  have hfin : ∀ W W1 : World, Below w.heap.size w W → ArenaIs W1 B ga (S.A.put i { S.A.at_ i with tag := tag + 1, prev := prev, next := next }) → KT B [62] W W1 → ListsAt W1 B gl ga gll { S with A := S.A.put i { S.A.at_ i with tag := tag + 1, prev := prev, next := next } } ∧ KT B [62] w W1 := fun W W1 hb ha hk =>
    ⟨⟨hk.blk (h.keep hb).lists (by decide), hk.blk (h.keep hb).heads (by decide), ha, h.gl_le, h.gll_le, h.few⟩, (KT.of_below hb B _).trans hk (Nat.le_refl _) (fun _ h => h)⟩
  have HF := hid hfin
  clear hAt hSet hc h hfin
  generalize hN : S.A.at_ i = N at *
  obtain ⟨a0, a1, a2, a3, a4, a5⟩ := N
  clear hN
  dsimp only at HF ⊢
  go_enter Try.func34, Try.ntmps34
  go_wp2_with (first | (go_at_call 31; refine (HT.out _ (by with_reducible repeat (first | exact Below.refl _ _ | assumption | refine Below.drew ?_ | refine Below.alloc ?_ (by simp; try omega) _ | refine Below.setCell ?_ (by simp; try omega) _ | refine pw_drewN ?_ _))).mono ?_; go_must (rintro e w1 ⟨rfl, hb⟩; have h0' := HC.out _ hb)) | (go_at_call 50; go_must (refine (lay1 tag prev next HT1.out (Blk.new w1 _ _) (cell_old (hb.alloc hb.size _) HC1.out) (cell_old (hb.alloc hb.size _) HC2.out) (cell_old (hb.alloc hb.size _) HC3.out)).mono ?_; rintro e w2 ⟨rfl, hb2, ho2⟩; have HB3 := hid ((hb.trans ((Below.refl w.heap.size w1).alloc hb.size _)).trans (ho2.below (by have := hb.size; simp; omega) hb.size)); have h0'' := HC.out _ HB3.out; have HO := hid ho2; obtain ⟨k0, k1, k2, k3, k4, k5, hfz⟩ := node_cells hb2; clear hb2 ho2)))
  go_region_with (go_at_call 36; go_must (refine (HS.out _ (pw_drew HB3.out) a0 a1 a2 (tag + 1) prev next).mono ?_; rintro e w3 ⟨rfl, ha3, hk3⟩))
  all_goals
    go_end0
    obtain ⟨f1, f2⟩ := HF.out _ _ (pw_drew HB3.out) ha3 hk3
    exact ⟨rfl, f1, f2⟩

set_option maxRecDepth 100000 in
set_option maxHeartbeats 800000 in
theorem with_next {w : World} {B gl ga gll : Nat} {S : Lst} (h : ListsAt w B gl ga gll S) (hB : B ≤ w.heap.size) (i : Int) (hi : I32 i) {p1 : Nat} (x : Int) (c1 : w.cell? ⟨p1, 0, none⟩ = some (.int .i32 x)) :
    Calls Try.prog 34 #[.pointer (some ⟨gl, 0, none⟩), .int .i32 i, .func (.func 51) #[] #[.pointer (some ⟨p1, 0, none⟩)]] w fun e w' =>
      e = .returned (.tuple #[]) ∧ ListsAt w' B gl ga gll { S with A := S.A.put i { S.A.at_ i with next := x } } ∧ KT B [62] w w' := by
  have hAt := fun W (hb : Below w.heap.size w W) => arena_At (h.keep hb).arena i hi
  have hSet := fun W (hb : Below w.heap.size w W) => arena_Set (h.keep hb).arena i hi
  have hc := fun W (hb : Below w.heap.size w W) => (h.keep hb).c0
  have h0 := h.c0
  have HT := hid hAt
  have HS := hid hSet
  have HC := hid hc
  have HL := hid h
  have htriv : True := trivial
  have HC1 := hid c1
  clear c1
  have hfin : ∀ W W1 : World, Below w.heap.size w W → ArenaIs W1 B ga (S.A.put i { S.A.at_ i with next := x }) → KT B [62] W W1 → ListsAt W1 B gl ga gll { S with A := S.A.put i { S.A.at_ i with next := x } } ∧ KT B [62] w W1 := fun W W1 hb ha hk =>
    ⟨⟨hk.blk (h.keep hb).lists (by decide), hk.blk (h.keep hb).heads (by decide), ha, h.gl_le, h.gll_le, h.few⟩, (KT.of_below hb B _).trans hk (Nat.le_refl _) (fun _ h => h)⟩
  have HF := hid hfin
  clear hAt hSet hc h hfin
  generalize hN : S.A.at_ i = N at *
  obtain ⟨a0, a1, a2, a3, a4, a5⟩ := N
  clear hN
  dsimp only at HF ⊢
  go_enter Try.func34, Try.ntmps34
  go_wp2_with (first | (go_at_call 31; refine (HT.out _ (by with_reducible repeat (first | exact Below.refl _ _ | assumption | refine Below.drew ?_ | refine Below.alloc ?_ (by simp; try omega) _ | refine Below.setCell ?_ (by simp; try omega) _ | refine pw_drewN ?_ _))).mono ?_; go_must (rintro e w1 ⟨rfl, hb⟩; have h0' := HC.out _ hb)) | (go_at_call 51; go_must (refine (join1 x (Blk.new w1 _ _) (cell_old (hb.alloc hb.size _) HC1.out)).mono ?_; rintro e w2 ⟨rfl, hb2, ho2⟩; have HB3 := hid ((hb.trans ((Below.refl w.heap.size w1).alloc hb.size _)).trans (ho2.below (by have := hb.size; simp; omega) hb.size)); have h0'' := HC.out _ HB3.out; have HO := hid ho2; obtain ⟨k0, k1, k2, k3, k4, k5, hfz⟩ := node_cells hb2; clear hb2 ho2)))
  go_region_with (go_at_call 36; go_must (refine (HS.out _ (pw_drew HB3.out) a0 a1 a2 a3 a4 x).mono ?_; rintro e w3 ⟨rfl, ha3, hk3⟩))
  all_goals
    go_end0
    obtain ⟨f1, f2⟩ := HF.out _ _ (pw_drew HB3.out) ha3 hk3
    exact ⟨rfl, f1, f2⟩

set_option maxRecDepth 100000 in
set_option maxHeartbeats 800000 in
theorem with_prev {w : World} {B gl ga gll : Nat} {S : Lst} (h : ListsAt w B gl ga gll S) (hB : B ≤ w.heap.size) (i : Int) (hi : I32 i) {p1 : Nat} (x : Int) (c1 : w.cell? ⟨p1, 0, none⟩ = some (.int .i32 x)) :
    Calls Try.prog 34 #[.pointer (some ⟨gl, 0, none⟩), .int .i32 i, .func (.func 52) #[] #[.pointer (some ⟨p1, 0, none⟩)]] w fun e w' =>
      e = .returned (.tuple #[]) ∧ ListsAt w' B gl ga gll { S with A := S.A.put i { S.A.at_ i with prev := x } } ∧ KT B [62] w w' := by
  have hAt := fun W (hb : Below w.heap.size w W) => arena_At (h.keep hb).arena i hi
  have hSet := fun W (hb : Below w.heap.size w W) => arena_Set (h.keep hb).arena i hi
  have hc := fun W (hb : Below w.heap.size w W) => (h.keep hb).c0
  have h0 := h.c0
  have HT := hid hAt
  have HS := hid hSet
  have HC := hid hc
  have HL := hid h
  have htriv : True := trivial
  have HC1 := hid c1
  clear c1
  have hfin : ∀ W W1 : World, Below w.heap.size w W → ArenaIs W1 B ga (S.A.put i { S.A.at_ i with prev := x }) → KT B [62] W W1 → ListsAt W1 B gl ga gll { S with A := S.A.put i { S.A.at_ i with prev := x } } ∧ KT B [62] w W1 := fun W W1 hb ha hk =>
    ⟨⟨hk.blk (h.keep hb).lists (by decide), hk.blk (h.keep hb).heads (by decide), ha, h.gl_le, h.gll_le, h.few⟩, (KT.of_below hb B _).trans hk (Nat.le_refl _) (fun _ h => h)⟩
  have HF := hid hfin
  clear hAt hSet hc h hfin
  generalize hN : S.A.at_ i = N at *
  obtain ⟨a0, a1, a2, a3, a4, a5⟩ := N
  clear hN
  dsimp only at HF ⊢
  go_enter Try.func34, Try.ntmps34
  go_wp2_with (first | (go_at_call 31; refine (HT.out _ (by with_reducible repeat (first | exact Below.refl _ _ | assumption | refine Below.drew ?_ | refine Below.alloc ?_ (by simp; try omega) _ | refine Below.setCell ?_ (by simp; try omega) _ | refine pw_drewN ?_ _))).mono ?_; go_must (rintro e w1 ⟨rfl, hb⟩; have h0' := HC.out _ hb)) | (go_at_call 52; go_must (refine (join2 x (Blk.new w1 _ _) (cell_old (hb.alloc hb.size _) HC1.out)).mono ?_; rintro e w2 ⟨rfl, hb2, ho2⟩; have HB3 := hid ((hb.trans ((Below.refl w.heap.size w1).alloc hb.size _)).trans (ho2.below (by have := hb.size; simp; omega) hb.size)); have h0'' := HC.out _ HB3.out; have HO := hid ho2; obtain ⟨k0, k1, k2, k3, k4, k5, hfz⟩ := node_cells hb2; clear hb2 ho2)))
  go_region_with (go_at_call 36; go_must (refine (HS.out _ (pw_drew HB3.out) a0 a1 a2 a3 x a5).mono ?_; rintro e w3 ⟨rfl, ha3, hk3⟩))
  all_goals
    go_end0
    obtain ⟨f1, f2⟩ := HF.out _ _ (pw_drew HB3.out) ha3 hk3
    exact ⟨rfl, f1, f2⟩

set_option maxRecDepth 100000 in
set_option maxHeartbeats 800000 in
theorem with_zero {w : World} {B gl ga gll : Nat} {S : Lst} (h : ListsAt w B gl ga gll S) (hB : B ≤ w.heap.size) (i : Int) (hi : I32 i)  :
    Calls Try.prog 34 #[.pointer (some ⟨gl, 0, none⟩), .int .i32 i, .func (.func 35) #[] #[]] w fun e w' =>
      e = .returned (.tuple #[]) ∧ ListsAt w' B gl ga gll { S with A := S.A.put i { S.A.at_ i with tag := 0, prev := 0, next := 0 } } ∧ KT B [62] w w' := by
  have hAt := fun W (hb : Below w.heap.size w W) => arena_At (h.keep hb).arena i hi
  have hSet := fun W (hb : Below w.heap.size w W) => arena_Set (h.keep hb).arena i hi
  have hc := fun W (hb : Below w.heap.size w W) => (h.keep hb).c0
  have h0 := h.c0
  have HT := hid hAt
  have HS := hid hSet
  have HC := hid hc
  have HL := hid h
  have htriv : True := trivial
  
  have hfin : ∀ W W1 : World, Below w.heap.size w W → ArenaIs W1 B ga (S.A.put i { S.A.at_ i with tag := 0, prev := 0, next := 0 }) → KT B [62] W W1 → ListsAt W1 B gl ga gll { S with A := S.A.put i { S.A.at_ i with tag := 0, prev := 0, next := 0 } } ∧ KT B [62] w W1 := fun W W1 hb ha hk =>
    ⟨⟨hk.blk (h.keep hb).lists (by decide), hk.blk (h.keep hb).heads (by decide), ha, h.gl_le, h.gll_le, h.few⟩, (KT.of_below hb B _).trans hk (Nat.le_refl _) (fun _ h => h)⟩
  have HF := hid hfin
  clear hAt hSet hc h hfin
  generalize hN : S.A.at_ i = N at *
  obtain ⟨a0, a1, a2, a3, a4, a5⟩ := N
  clear hN
  dsimp only at HF ⊢
  go_enter Try.func34, Try.ntmps34
  go_wp2_with (first | (go_at_call 31; refine (HT.out _ (by with_reducible repeat (first | exact Below.refl _ _ | assumption | refine Below.drew ?_ | refine Below.alloc ?_ (by simp; try omega) _ | refine Below.setCell ?_ (by simp; try omega) _ | refine pw_drewN ?_ _))).mono ?_; go_must (rintro e w1 ⟨rfl, hb⟩; have h0' := HC.out _ hb)) | (go_at_call 35; go_must (refine (rem1 (Blk.new w1 _ _)).mono ?_; rintro e w2 ⟨rfl, hb2, ho2⟩; have HB3 := hid ((hb.trans ((Below.refl w.heap.size w1).alloc hb.size _)).trans (ho2.below (by have := hb.size; simp; omega) hb.size)); have h0'' := HC.out _ HB3.out; have HO := hid ho2; obtain ⟨k0, k1, k2, k3, k4, k5, hfz⟩ := node_cells hb2; clear hb2 ho2)))
  go_region_with (go_at_call 36; go_must (refine (HS.out _ (pw_drew HB3.out) a0 a1 a2 0 0 0).mono ?_; rintro e w3 ⟨rfl, ha3, hk3⟩))
  all_goals
    go_end0
    obtain ⟨f1, f2⟩ := HF.out _ _ (pw_drew HB3.out) ha3 hk3
    exact ⟨rfl, f1, f2⟩


end Go.Proofs.Ytfcfbfingnpnoaa
