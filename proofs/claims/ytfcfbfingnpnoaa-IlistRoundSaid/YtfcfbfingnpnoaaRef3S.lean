/-
  The reference of layer 3: Set, Alloc, Free.
-/
import Derived.Test.YtfcfbfingnpnoaaRef3
set_option linter.unusedVariables false
set_option linter.unusedSimpArgs false
namespace Go.Proofs.Ytfcfbfingnpnoaa
open Go.RowKit

def RN (w : World) (g n c : Nat) : Prop := ∃ cur, Blk w g cur 84 ∧ n ≤ c ∧ c ≤ maxLen ∧ c * 6 ≤ cur.size ∧ ∀ u ∈ cur.toList.take (n * 6), u.oneCell' = true
theorem RN.row {w : World} {g n c : Nat} (h : RN w g n c) : ∃ xs, Row w 0 84 6 (.slice (some ⟨g, 0, none⟩) n c) n xs ∧ ∀ u ∈ xs, u.oneCell' = true := by
  obtain ⟨cur, h1, h2, h3, h4, h5⟩ := h
  refine ⟨cur.toList.take (n * 6), ⟨?_, .inr ⟨g, c, cur, rfl, by omega, h1, h2, h3, h4, rfl⟩⟩, h5⟩
  rw [List.length_take, Array.length_toList]
  omega
theorem RN.of_row {w : World} {B n c : Nat} {A : Option Addr} {xs : List Value} (h : Row w B 84 6 (.slice A n c) n xs) (hn : 0 < n) (h1 : ∀ u ∈ xs, u.oneCell' = true) : ∃ g, A = some ⟨g, 0, none⟩ ∧ B ≤ g ∧ RN w g n c := by
  obtain ⟨g, cap, cur, hv, hB, hb, h2, h3, h4, h5⟩ := h.at_pos hn
  injection hv with e1 e2 e3
  subst e3
  exact ⟨g, e1, hB, cur, hb, h2, h3, h4, by rw [h5]; exact h1⟩
theorem RN.set {w : World} {g n c : Nat} (h : RN w g n c) (j : Nat) {v : Value} (hv : v.oneCell' = true) : RN (w.setCell ⟨g, j, none⟩ v) g n c := by
  obtain ⟨cur, h1, h2, h3, h4, h5⟩ := h
  refine ⟨_, h1.set j v, h2, h3, by simpa using h4, fun u hu => ?_⟩
  rw [Array.toList_setIfInBounds, List.take_set] at hu
  rcases List.mem_or_eq_of_mem_set hu with h6 | h6
  · exact h5 u h6
  · rw [h6]; exact hv
theorem RN.oth {w : World} {g n c : Nat} (h : RN w g n c) {a : Addr} (hne : g ≠ a.block) (v : Value) : RN (w.setCell a v) g n c := by
  obtain ⟨cur, h1, h2⟩ := h
  exact ⟨cur, h1.oth hne v, h2⟩
theorem RN.below {w w' : World} {g n c : Nat} (h : RN w g n c) (hb : Below w.heap.size w w') : RN w' g n c := by
  obtain ⟨cur, h1, h2⟩ := h
  exact ⟨cur, h1.below hb h1.lt, h2⟩
theorem RN.cells {w : World} {g n c : Nat} (h : RN w g n c) {i : Nat} (hi : i < n) (k : Nat) (hk : k < 6) : (∃ v, w.cell? ⟨g, i * 6 + k, none⟩ = some v) ∧ w.frozen? ⟨g, i * 6 + k, none⟩ = false := by
  obtain ⟨cur, h1, h2, h3, h4, h5⟩ := h
  have hlt : i * 6 + k < cur.size := by omega
  exact ⟨⟨_, h1.cell _ (Array.getElem?_eq_getElem hlt)⟩, h1.frozen _⟩
theorem cells4 {w : World} {b : Nat} {v0 v1 v2 v3 : Value} {T : TypeId} (h : Blk w b #[v0, v1, v2, v3] T) : w.cell? ⟨b, 0, none⟩ = some v0 ∧ w.cell? ⟨b, 1, none⟩ = some v1 ∧ w.cell? ⟨b, 2, none⟩ = some v2 ∧ w.cell? ⟨b, 3, none⟩ = some v3 ∧ ∀ i, w.frozen? ⟨b, i, none⟩ = false :=
  ⟨h.cell 0 rfl, h.cell 1 rfl, h.cell 2 rfl, h.cell 3 rfl, h.frozen⟩
theorem cells6 {w : World} {b : Nat} {v0 v1 v2 v3 v4 v5 : Value} {T : TypeId} (h : Blk w b #[v0, v1, v2, v3, v4, v5] T) : w.cell? ⟨b, 0, none⟩ = some v0 ∧ w.cell? ⟨b, 1, none⟩ = some v1 ∧ w.cell? ⟨b, 2, none⟩ = some v2 ∧ w.cell? ⟨b, 3, none⟩ = some v3 ∧ w.cell? ⟨b, 4, none⟩ = some v4 ∧ w.cell? ⟨b, 5, none⟩ = some v5 ∧ ∀ i, w.frozen? ⟨b, i, none⟩ = false :=
  ⟨h.cell 0 rfl, h.cell 1 rfl, h.cell 2 rfl, h.cell 3 rfl, h.cell 4 rfl, h.cell 5 rfl, h.frozen⟩
theorem Try.info_rnode : (Try.prog.info? 84).map (fun i => (i.zero, i.size, i.bytes)) = some (some (.agg #[.int .u64 0, .int .u64 0, .int .i64 0, .int .i64 0, .int .i32 0, .int .i32 0]), 6, 40) := by kernel_rfl

theorem bodyPost_at {P : Program} {fn : Func} {R : Ending → World → Prop} {a : Act} {w : World} {v : Value} {b : Nat} {c : Array Value} {T : TypeId} (hb : Blk w b c T) (hr : ∀ W, Blk W b c T → (results fn a.tmps).run P W = .ok v W) (hd : a.defers = []) (hR : R (.returned v) w) : bodyPost P fn R .ret a w := bodyPost_ret (hr w hb) hd hR
theorem boxesA (w : World) (c0 c1 c2 : Array Value) (T0 T1 T2 : TypeId) (W : World) (hb : Below (((w.alloc (.cells c0 T0)).alloc (.cells c1 T1)).alloc (.cells c2 T2)).heap.size (((w.alloc (.cells c0 T0)).alloc (.cells c1 T1)).alloc (.cells c2 T2)) W) :
    Blk W w.heap.size c0 T0 ∧ Blk W (w.heap.size + 1) c1 T1 ∧ Blk W (w.heap.size + 2) c2 T2 ∧ Below w.heap.size w W ∧ w.heap.size + 3 ≤ W.heap.size := by
  have hs := hb.size
  simp at hs
  have h1 : Below w.heap.size w (((w.alloc (.cells c0 T0)).alloc (.cells c1 T1)).alloc (.cells c2 T2)) := (by with_reducible repeat (first | exact Below.refl _ _ | assumption | refine Below.drew ?_ | refine Below.alloc ?_ (by simp; try omega) _ | refine Below.setCell ?_ (by simp; try omega) _ | refine pw_drewN ?_ _))
  exact ⟨Blk.below (((Blk.new w _ _).alloc _).alloc _) hb (by simp; try omega), Blk.below (((Blk.new' _ _ _ _ (by simp)).alloc _)) hb (by simp; try omega), Blk.below (Blk.new' _ _ _ _ (by simp)) hb (by simp; try omega), h1.trans (hb.mono (by simp; try omega)), by omega⟩
theorem boxesB (w : World) (c0 c1 : Array Value) (T0 T1 : TypeId) (W : World) (hb : Below ((w.alloc (.cells c0 T0)).alloc (.cells c1 T1)).heap.size ((w.alloc (.cells c0 T0)).alloc (.cells c1 T1)) W) :
    Blk W w.heap.size c0 T0 ∧ Blk W (w.heap.size + 1) c1 T1 ∧ Below w.heap.size w W ∧ w.heap.size + 2 ≤ W.heap.size := by
  have hs := hb.size
  simp at hs
  have h1 : Below w.heap.size w ((w.alloc (.cells c0 T0)).alloc (.cells c1 T1)) := (by with_reducible repeat (first | exact Below.refl _ _ | assumption | refine Below.drew ?_ | refine Below.alloc ?_ (by simp; try omega) _ | refine Below.setCell ?_ (by simp; try omega) _ | refine pw_drewN ?_ _))
  exact ⟨Blk.below ((Blk.new w _ _).alloc _) hb (by simp; try omega), Blk.below (Blk.new' _ _ _ _ (by simp)) hb (by simp; try omega), h1.trans (hb.mono (by simp; try omega)), by omega⟩

section
variable {w : World} {x0 ever : Int} {A2 : Option Addr} {c2 g3 n3 c3 : Nat} {fs : List Int} (hr : Row w 0 21 1 (.slice A2 fs.length c2) fs.length (fs.map (Value.int .i32))) (hlen : fs.length ≤ 1000000) (hn : RN w g3 n3 c3) (hn3 : n3 ≤ 1000000)
include hr hlen hn hn3
set_option maxRecDepth 100000 in
set_option maxHeartbeats 1600000 in
theorem ref3_Set (i : Nat) (hi : i < n3) (hev : ever ≤ 1000000) (hyes : isR ever fs i = true) (a0 a1 a2 a3 a4 a5 : Int) : Calls Try.prog 38 #[.agg #[.int .i64 x0, .int .i64 ever, .slice A2 fs.length c2, .slice (some ⟨g3, 0, none⟩) n3 c3], .int .i32 i, .agg #[.int .u64 a0, .int .u64 a1, .int .i64 a2, .int .i64 a3, .int .i32 a4, .int .i32 a5]] w fun e w' =>
    ∃ g' c', e = .returned (.tuple #[.agg #[.int .i64 x0, .int .i64 ever, .slice A2 fs.length c2, .slice (some ⟨g', 0, none⟩) n3 c'], .bool true]) ∧ RN w' g' n3 c' ∧ Below w.heap.size w w' := by
  obtain ⟨i0, hi0, hz0, hz1, hz2⟩ := info_parts Try.info_rnode
  have hi32 : I32 (i : Int) := by unfold I32; omega
  have HIS := hid (fun (W : World) (hb : Below w.heap.size w W) => hyes ▸ ref3_Is (x0 := x0) (ever := ever) (A3 := some ⟨g3, 0, none⟩) (n3 := n3) (c3 := c3) (hr.below hb) hlen (i : Int) hi32 hev)
  have HN := hid (fun (W : World) (hb : Below w.heap.size w W) => (hn.below hb).row)
  generalize hfl : fs.length = n2 at *
  have HFL := hid hfl
  have HW0 := hid (boxesA w #[.int .i64 x0, .int .i64 ever, .slice A2 n2 c2, .slice (some ⟨g3, 0, none⟩) n3 c3] #[.int .u64 a0, .int .u64 a1, .int .i64 a2, .int .i64 a3, .int .i32 a4, .int .i32 a5] #[.int .i64 0, .int .i64 0, .slice none 0 0, .slice none 0 0] 31 84 31)
  have hempty : ∀ W : World, w.heap.size + 3 ≤ W.heap.size → Row (W.alloc (.cells #[] 84)) (w.heap.size + 3) 84 6 (.slice (some ⟨W.heap.size, 0, none⟩) 0 0) 0 [] := fun W h => ⟨rfl, .inr ⟨W.heap.size, 0, #[], rfl, h, Blk.new _ _ _, by omega, by simp [maxLen], by simp, rfl⟩⟩
  have HEM := hid hempty
  clear hr hn hlen hyes hfl hempty
  go_enter Try.func38, Try.ntmps38
  go_wp2_with (first | (go_at_call 53; go_must (refine (HIS.out _ (by with_reducible repeat (first | exact Below.refl _ _ | assumption | refine Below.drew ?_ | refine Below.alloc ?_ (by simp; try omega) _ | refine Below.setCell ?_ (by simp; try omega) _ | refine pw_drewN ?_ _))).mono ?_; rintro e w1 ⟨rfl, hb1⟩; obtain ⟨hk0, hk1, hk2, hk3, hk4⟩ := HW0.out _ hb1; obtain ⟨d0, d1, d2, d3, dF⟩ := cells4 hk0; have hl0 : w.heap.size < w1.heap.size := (by omega); have HK0 := hid hk0; have HK1 := hid hk1; have HK2 := hid hk2; have HK3 := hid hk3; have HK4 := hid hk4; clear hk0 hk1 hk2 hk3 hb1 hk4)) | (at_builtin; obtain ⟨xs, hxr, hx1⟩ := HN.out (w1.alloc (.cells #[] 84)) (Below.alloc HK3.out HK3.out.size _); have HXR := hid hxr; have HX1 := hid hx1; clear hxr hx1; go_must (refine wpList_append_row _ rfl (.tmp 14) (.tmp 16) 29 rfl 84 i0 _ 6 40 Try.underlying29 hi0 hz0 hz1 hz2 rfl (by decide) (w.heap.size + 3) _ 0 0 [] rfl (HEM.out w1 HK4.out) _ n3 0 xs rfl HXR.out HX1.out ?q4 ?q5 ?q6 ?k); case' k => go_must (intro A1 cp w2 hr2 hk2; rw [Nat.zero_add] at hr2 ⊢; rw [List.nil_append] at hr2; obtain ⟨g', rfl, hg', hn'⟩ := RN.of_row hr2 (by omega) HX1.out; have hb2 : Below (w.heap.size + 3) (w1.alloc (.cells #[] 84)) w2 := hk2.below (by have := HK4.out; simp; try omega); have HN2 := hid hn'; have HB2 := hid hb2; have e0 := (HK0.out.alloc (.cells #[] 84)).below hb2 (by omega); have e1 := (HK1.out.alloc (.cells #[] 84)).below hb2 (by omega); have e2 : Blk w2 (w.heap.size + 1 + 1) #[.int .i64 0, .int .i64 0, .slice none 0 0, .slice none 0 0] 31 := (HK2.out.alloc (.cells #[] 84)).below hb2 (by omega); obtain ⟨f0, f1, f2, f3, fF⟩ := cells4 e0; obtain ⟨m0, m1, m2, m3, m4, m5, mF⟩ := cells6 e1; obtain ⟨r0, r1, r2, r3, rF⟩ := cells4 e2; have E0 := hid e0; have E2 := hid e2; obtain ⟨⟨z0, k0⟩, p0⟩ := hn'.cells hi 0 (by omega); obtain ⟨⟨z1, k1⟩, p1⟩ := hn'.cells hi 1 (by omega); obtain ⟨⟨z2, k2⟩, p2⟩ := hn'.cells hi 2 (by omega); obtain ⟨⟨z3, k3⟩, p3⟩ := hn'.cells hi 3 (by omega); obtain ⟨⟨z4, k4⟩, p4⟩ := hn'.cells hi 4 (by omega); obtain ⟨⟨z5, k5⟩, p5⟩ := hn'.cells hi 5 (by omega); simp only [Nat.add_zero] at k0 p0; have n0 : w.heap.size ≠ g' := (by omega); have n2' : w.heap.size + 1 + 1 ≠ g' := (by omega); clear hr2 hk2 hn' hb2 e0 e1 e2)))
  case q4 => unfold maxLen; omega
  case q5 => omega
  case q6 => have := HK4.out; simp; try omega
  have hkk : Below w.heap.size w w2 := (HK3.out.alloc HK3.out.size (.cells #[] 84)).trans (HB2.out.mono (by omega))
  have hF : ∀ W, RN W g' n3 cp → ∀ e : Ending, e = .returned (.tuple #[.agg #[.int .i64 x0, .int .i64 ever, .slice A2 n2 c2, .slice (some ⟨g', 0, none⟩) n3 cp], .bool true]) → Below w.heap.size w W → ∃ g' c', e = .returned (.tuple #[.agg #[.int .i64 x0, .int .i64 ever, .slice A2 n2 c2, .slice (some ⟨g', 0, none⟩) n3 c'], .bool true]) ∧ RN W g' n3 c' ∧ Below w.heap.size w W := fun W h1 e h2 h3 => ⟨g', cp, h2, h1, h3⟩
  refine bodyPost_at (b := w.heap.size + 1 + 1) (c := #[.int .i64 x0, .int .i64 ever, .slice A2 n2 c2, .slice (some ⟨g', 0, none⟩) n3 cp]) (T := 31) (v := .tuple #[.agg #[.int .i64 x0, .int .i64 ever, .slice A2 n2 c2, .slice (some ⟨g', 0, none⟩) n3 cp], .bool true]) ((((((((((((E2.out.oth n2' _).oth n2' _).oth n2' _).oth n2' _).oth n2' _).oth n2' _).oth (show w.heap.size + 1 + 1 ≠ w.heap.size by omega) _).set 0 _).set 1 _).set 2 _).set 3 _).cast rfl) (fun W hW => ?_) rfl (hF _ (by with_reducible exact RN.oth (RN.oth (RN.oth (RN.oth (RN.oth (RN.set (RN.set (RN.set (RN.set (RN.set (RN.set HN2.out _ rfl) _ rfl) _ rfl) _ rfl) _ rfl) _ rfl) n0.symm _) n2'.symm _) n2'.symm _) n2'.symm _) n2'.symm _) _ rfl (by with_reducible repeat (first | exact Below.refl _ _ | assumption | refine Below.drew ?_ | refine Below.alloc ?_ (by simp; try omega) _ | refine Below.setCell ?_ (by simp; try omega) _ | refine pw_drewN ?_ _)))
  obtain ⟨c0, c1, c2, c3, _⟩ := cells4 hW
  simp [results, Try.results38, go_sem, c0, c1, c2, c3]
end

end Go.Proofs.Ytfcfbfingnpnoaa
