/-
  The reference of layer 3: Alloc, Free.
-/
import Derived.Test.YtfcfbfingnpnoaaRef3S
set_option linter.unusedVariables false
set_option linter.unusedSimpArgs false
namespace Go.Proofs.Ytfcfbfingnpnoaa
open Go.RowKit

theorem node0_one : ∀ u ∈ [Value.int .u64 0, .int .u64 0, .int .i64 0, .int .i64 0, .int .i32 0, .int .i32 0], u.oneCell' = true := by simp [Value.oneCell']
theorem RN.drew {w : World} {g n c : Nat} (h : RN w g n c) : RN w.drew g n c := h
theorem Row.oth {w : World} {B : Nat} {e : TypeId} {sz n : Nat} {v : Value} {xs : List Value} (h : Row w B e sz v n xs) {a : Addr} (ha : a.block < B) (x : Value) : Row (w.setCell a x) B e sz v n xs := by
  refine ⟨h.1, ?_⟩
  rcases h.2 with h2 | ⟨g, cap, cur, hv, hg, hb, r⟩
  · exact .inl h2
  · exact .inr ⟨g, cap, cur, hv, hg, hb.oth (by omega) x, r⟩
theorem newL (W : World) (news : List Value) (T : TypeId) : ∀ j u, news[j]? = some u → (W.alloc (.cells news.toArray T)).cell? ((⟨W.heap.size, 0, none⟩ : Addr).add j) = some u := by
  intro j u h
  have : (⟨W.heap.size, 0, none⟩ : Addr).add j = ⟨W.heap.size, j, none⟩ := by unfold Addr.add; split <;> simp_all
  rw [this]
  exact (Blk.new W news.toArray T).cell j (by simpa using h)
section
variable {w : World} {x0 ever : Int} {g3 n3 c3 : Nat} (hn : RN w g3 n3 c3)
include hn
set_option maxRecDepth 100000 in
set_option maxHeartbeats 1600000 in
theorem ref3_Alloc_same (hn3 : n3 ≤ 1000000) (hp : 0 < n3) (hev : 0 ≤ ever ∧ ever ≤ 1000000) (hx0 : 0 ≤ x0 ∧ x0 ≤ 1000000) (hc : ¬ x0 ≤ ever + 1) : Calls Try.prog 37 #[.agg #[.int .i64 x0, .int .i64 ever, .slice none 0 0, .slice (some ⟨g3, 0, none⟩) n3 c3]] w fun e w' =>
    ∃ g' c', e = .returned (.tuple #[.agg #[.int .i64 (x0), .int .i64 (ever + 1), .slice none 0 0, .slice (some ⟨g', 0, none⟩) (n3 + 1) c'], .int .i32 (ever + 1)]) ∧ RN w' g' (n3 + 1) c' ∧ Below w.heap.size w w' := by
  obtain ⟨i0, hi0, hz0, hz1, hz2⟩ := info_parts Try.info_rnode
  have HN := hid (fun (W : World) (hb : Below w.heap.size w W) => (hn.below hb).row)
  have hbx := boxesB w #[.int .i64 (x0), .int .i64 (ever + 1), .slice none 0 0, .slice (some ⟨g3, 0, none⟩) n3 c3] #[.int .i64 0, .int .i64 0, .slice none 0 0, .slice none 0 0] 31 31 _ (Below.refl _ _)
  have hsz : ((w.alloc (.cells #[.int .i64 (x0), .int .i64 (ever + 1), .slice none 0 0, .slice (some ⟨g3, 0, none⟩) n3 c3] 31)).alloc (.cells #[.int .i64 0, .int .i64 0, .slice none 0 0, .slice none 0 0] 31)).heap.size = w.heap.size + 1 + 1 := by simp
  have HBX := hid hbx
  have HSZ := hid hsz
  have HEM := hid (show ∀ W : World, W.heap.size = w.heap.size + 1 + 1 → Row (W.alloc (.cells #[] 84)) (w.heap.size + 2) 84 6 (.slice (some ⟨w.heap.size + 1 + 1, 0, none⟩) 0 0) 0 [] from fun W hs => ⟨rfl, .inr ⟨w.heap.size + 1 + 1, 0, #[], rfl, by omega, Blk.new' _ _ _ _ (by rw [hs]), by omega, by simp [maxLen], by simp, rfl⟩⟩)
  have hfin : ∀ (w2 w3 : World) (g' cp : Nat), Below (w.heap.size + 2) (((w.alloc (.cells #[.int .i64 (x0), .int .i64 (ever + 1), .slice none 0 0, .slice (some ⟨g3, 0, none⟩) n3 c3] 31)).alloc (.cells #[.int .i64 0, .int .i64 0, .slice none 0 0, .slice none 0 0] 31)).alloc (.cells #[] 84)) w2 → ∀ o, Below (w.heap.size + 2) (w2.alloc o) w3 → Blk w3 w.heap.size #[.int .i64 (x0), .int .i64 (ever + 1), .slice none 0 0, .slice (some ⟨g3, 0, none⟩) n3 c3] 31 ∧ Blk w3 (w.heap.size + 1) #[.int .i64 0, .int .i64 0, .slice none 0 0, .slice none 0 0] 31 ∧ Below w.heap.size w w3 := fun w2 w3 g' cp h2 o h3 =>
    ⟨(((hbx.1.alloc _).below h2 (by omega)).alloc o).below h3 (by omega), (((hbx.2.1.alloc _).below h2 (by omega)).alloc o).below h3 (by omega), ((((hbx.2.2.1.alloc hbx.2.2.1.size _).trans (h2.mono (by omega))).alloc (by have := h2.size; simp at this; omega) o).trans (h3.mono (by omega)))⟩
  have HFIN := hid hfin
  clear hbx hn hsz hfin
  go_enter Try.func37, Try.ntmps37
  go_wp2_with (first | (at_builtin; obtain ⟨xs, hxr, hx1⟩ := HN.out (((w.alloc (.cells #[.int .i64 (x0), .int .i64 (ever + 1), .slice none 0 0, .slice (some ⟨g3, 0, none⟩) n3 c3] 31)).alloc (.cells #[.int .i64 0, .int .i64 0, .slice none 0 0, .slice none 0 0] 31)).alloc (.cells #[] 84)) (Below.alloc HBX.out.2.2.1 HBX.out.2.2.1.size _); have HXR := hid hxr; have HX1 := hid hx1; clear hxr hx1; refine wpList_append_row _ rfl (.tmp 47) (.tmp 49) 29 rfl 84 i0 _ 6 40 Try.underlying29 hi0 hz0 hz1 hz2 rfl (by decide) (w.heap.size + 2) _ 0 0 [] rfl (HEM.out _ HSZ.out) _ n3 0 xs rfl HXR.out HX1.out (by unfold maxLen; omega) (by omega) (by simp; try omega) ?k; case' k => go_must (intro A1 cp w2 hr2 hk2; rw [Nat.zero_add] at hr2 ⊢; rw [List.nil_append] at hr2; have hb2 := hk2.below (by simp; try omega); have HR2 := hid hr2; have HB2 := hid hb2; clear hr2 hk2 hb2)) | (at_builtin; refine wpList_append_any _ rfl (.tmp 50) (.tmp 52) 29 rfl 84 i0 _ 6 40 Try.underlying29 hi0 hz0 hz1 hz2 rfl (by decide) (w.heap.size + 2) (.slice A1 n3 cp) n3 xs rfl (HR2.out.below (Below.alloc (Below.refl _ _) (Nat.le_refl _) _)) ⟨w2.heap.size, 0, none⟩ 1 1 [.int .u64 0, .int .u64 0, .int .i64 0, .int .i64 0, .int .i32 0, .int .i32 0] rfl rfl (newL _ _ _) (by simp [Value.oneCell']) (by unfold maxLen; omega) (by omega) (by have := HB2.out.size; simp at this ⊢; omega) ?k2; case' k2 => go_must (intro A3 cp3 w3 hr3 hg3 hk3 ho3 hc3; clear hg3 ho3 hc3; obtain ⟨g', rfl, hg', hn'⟩ := RN.of_row hr3 (by omega) (fun u hu => (List.mem_append.1 hu).elim (HX1.out u) (node0_one u)); have hb3 := hk3.below (by have := HB2.out.size; simp at this ⊢; omega); obtain ⟨e0, e1, hkk⟩ := HFIN.out w2 w3 g' cp3 HB2.out _ hb3; obtain ⟨f0, f1, f2, f3, fF⟩ := cells4 e0; obtain ⟨r0, r1, r2, r3, rF⟩ := cells4 e1; have E0 := hid e0; have E1 := hid e1; have HN2 := hid hn'; have HKK := hid hkk; clear hr3 hk3 hb3 e0 e1 hn' hkk)))
  go_region
  go_wp2
  have hkk := HKK.out
  have hF : ∀ W, RN W g' (n3 + 1) cp3 → ∀ e : Ending, e = .returned (.tuple #[.agg #[.int .i64 (x0), .int .i64 (ever + 1), .slice none 0 0, .slice (some ⟨g', 0, none⟩) (n3 + 1) cp3], .int .i32 (ever + 1)]) → Below w.heap.size w W → ∃ g' c', e = .returned (.tuple #[.agg #[.int .i64 (x0), .int .i64 (ever + 1), .slice none 0 0, .slice (some ⟨g', 0, none⟩) (n3 + 1) c'], .int .i32 (ever + 1)]) ∧ RN W g' (n3 + 1) c' ∧ Below w.heap.size w W := fun W h1 e h2 h3 => ⟨g', cp3, h2, h1, h3⟩
  have n0 : g' ≠ w.heap.size := by omega
  have n1 : g' ≠ w.heap.size + 1 := by omega
  refine bodyPost_at (b := w.heap.size + 1) (c := #[.int .i64 (x0), .int .i64 (ever + 1), .slice none 0 0, .slice (some ⟨g', 0, none⟩) (n3 + 1) cp3]) (T := 31) (v := .tuple #[.agg #[.int .i64 (x0), .int .i64 (ever + 1), .slice none 0 0, .slice (some ⟨g', 0, none⟩) (n3 + 1) cp3], .int .i32 (ever + 1)]) (((((((E1.out.oth (show w.heap.size + 1 ≠ w.heap.size by omega) _).set 0 _).set 1 _).set 2 _).set 3 _).drew).cast rfl) (fun W hW => ?_) rfl (hF _ (by with_reducible exact RN.drew (RN.oth (RN.oth (RN.oth (RN.oth (RN.oth HN2.out n0 _) n1 _) n1 _) n1 _) n1 _)) _ rfl (by with_reducible repeat (first | exact Below.refl _ _ | assumption | refine Below.drew ?_ | refine Below.alloc ?_ (by simp; try omega) _ | refine Below.setCell ?_ (by simp; try omega) _ | refine pw_drewN ?_ _)))
  obtain ⟨c0, c1, c2, c3, _⟩ := cells4 hW
  simp [results, Try.results37, go_sem, c0, c1, c2, c3]

set_option maxRecDepth 100000 in
set_option maxHeartbeats 1600000 in
theorem ref3_Alloc_double (hn3 : n3 ≤ 1000000) (hp : 0 < n3) (hev : 0 ≤ ever ∧ ever ≤ 1000000) (hx0 : 0 ≤ x0 ∧ x0 ≤ 1000000) (hc : x0 ≤ ever + 1) : Calls Try.prog 37 #[.agg #[.int .i64 x0, .int .i64 ever, .slice none 0 0, .slice (some ⟨g3, 0, none⟩) n3 c3]] w fun e w' =>
    ∃ g' c', e = .returned (.tuple #[.agg #[.int .i64 (2 * x0), .int .i64 (ever + 1), .slice none 0 0, .slice (some ⟨g', 0, none⟩) (n3 + 1) c'], .int .i32 (ever + 1)]) ∧ RN w' g' (n3 + 1) c' ∧ Below w.heap.size w w' := by
  obtain ⟨i0, hi0, hz0, hz1, hz2⟩ := info_parts Try.info_rnode
  have HN := hid (fun (W : World) (hb : Below w.heap.size w W) => (hn.below hb).row)
  have hbx := boxesB w #[.int .i64 (2 * x0), .int .i64 (ever + 1), .slice none 0 0, .slice (some ⟨g3, 0, none⟩) n3 c3] #[.int .i64 0, .int .i64 0, .slice none 0 0, .slice none 0 0] 31 31 _ (Below.refl _ _)
  have hsz : ((w.alloc (.cells #[.int .i64 (2 * x0), .int .i64 (ever + 1), .slice none 0 0, .slice (some ⟨g3, 0, none⟩) n3 c3] 31)).alloc (.cells #[.int .i64 0, .int .i64 0, .slice none 0 0, .slice none 0 0] 31)).heap.size = w.heap.size + 1 + 1 := by simp
  have HBX := hid hbx
  have HSZ := hid hsz
  have HEM := hid (show ∀ W : World, W.heap.size = w.heap.size + 1 + 1 → Row (W.alloc (.cells #[] 84)) (w.heap.size + 2) 84 6 (.slice (some ⟨w.heap.size + 1 + 1, 0, none⟩) 0 0) 0 [] from fun W hs => ⟨rfl, .inr ⟨w.heap.size + 1 + 1, 0, #[], rfl, by omega, Blk.new' _ _ _ _ (by rw [hs]), by omega, by simp [maxLen], by simp, rfl⟩⟩)
  have hfin : ∀ (w2 w3 : World) (g' cp : Nat), Below (w.heap.size + 2) (((w.alloc (.cells #[.int .i64 (2 * x0), .int .i64 (ever + 1), .slice none 0 0, .slice (some ⟨g3, 0, none⟩) n3 c3] 31)).alloc (.cells #[.int .i64 0, .int .i64 0, .slice none 0 0, .slice none 0 0] 31)).alloc (.cells #[] 84)) w2 → ∀ o, Below (w.heap.size + 2) (w2.alloc o) w3 → Blk w3 w.heap.size #[.int .i64 (2 * x0), .int .i64 (ever + 1), .slice none 0 0, .slice (some ⟨g3, 0, none⟩) n3 c3] 31 ∧ Blk w3 (w.heap.size + 1) #[.int .i64 0, .int .i64 0, .slice none 0 0, .slice none 0 0] 31 ∧ Below w.heap.size w w3 := fun w2 w3 g' cp h2 o h3 =>
    ⟨(((hbx.1.alloc _).below h2 (by omega)).alloc o).below h3 (by omega), (((hbx.2.1.alloc _).below h2 (by omega)).alloc o).below h3 (by omega), ((((hbx.2.2.1.alloc hbx.2.2.1.size _).trans (h2.mono (by omega))).alloc (by have := h2.size; simp at this; omega) o).trans (h3.mono (by omega)))⟩
  have HFIN := hid hfin
  clear hbx hn hsz hfin
  go_enter Try.func37, Try.ntmps37
  go_wp2_with (first | (at_builtin; obtain ⟨xs, hxr, hx1⟩ := HN.out (((w.alloc (.cells #[.int .i64 (2 * x0), .int .i64 (ever + 1), .slice none 0 0, .slice (some ⟨g3, 0, none⟩) n3 c3] 31)).alloc (.cells #[.int .i64 0, .int .i64 0, .slice none 0 0, .slice none 0 0] 31)).alloc (.cells #[] 84)) (Below.alloc HBX.out.2.2.1 HBX.out.2.2.1.size _); have HXR := hid hxr; have HX1 := hid hx1; clear hxr hx1; refine wpList_append_row _ rfl (.tmp 47) (.tmp 49) 29 rfl 84 i0 _ 6 40 Try.underlying29 hi0 hz0 hz1 hz2 rfl (by decide) (w.heap.size + 2) _ 0 0 [] rfl (HEM.out _ HSZ.out) _ n3 0 xs rfl HXR.out HX1.out (by unfold maxLen; omega) (by omega) (by simp; try omega) ?k; case' k => go_must (intro A1 cp w2 hr2 hk2; rw [Nat.zero_add] at hr2 ⊢; rw [List.nil_append] at hr2; have hb2 := hk2.below (by simp; try omega); have HR2 := hid hr2; have HB2 := hid hb2; clear hr2 hk2 hb2)) | (at_builtin; refine wpList_append_any _ rfl (.tmp 50) (.tmp 52) 29 rfl 84 i0 _ 6 40 Try.underlying29 hi0 hz0 hz1 hz2 rfl (by decide) (w.heap.size + 2) (.slice A1 n3 cp) n3 xs rfl (HR2.out.below (Below.alloc (Below.refl _ _) (Nat.le_refl _) _)) ⟨w2.heap.size, 0, none⟩ 1 1 [.int .u64 0, .int .u64 0, .int .i64 0, .int .i64 0, .int .i32 0, .int .i32 0] rfl rfl (newL _ _ _) (by simp [Value.oneCell']) (by unfold maxLen; omega) (by omega) (by have := HB2.out.size; simp at this ⊢; omega) ?k2; case' k2 => go_must (intro A3 cp3 w3 hr3 hg3 hk3 ho3 hc3; clear hg3 ho3 hc3; obtain ⟨g', rfl, hg', hn'⟩ := RN.of_row hr3 (by omega) (fun u hu => (List.mem_append.1 hu).elim (HX1.out u) (node0_one u)); have hb3 := hk3.below (by have := HB2.out.size; simp at this ⊢; omega); obtain ⟨e0, e1, hkk⟩ := HFIN.out w2 w3 g' cp3 HB2.out _ hb3; obtain ⟨f0, f1, f2, f3, fF⟩ := cells4 e0; obtain ⟨r0, r1, r2, r3, rF⟩ := cells4 e1; have E0 := hid e0; have E1 := hid e1; have HN2 := hid hn'; have HKK := hid hkk; clear hr3 hk3 hb3 e0 e1 hn' hkk)))
  go_region
  go_wp2
  have hkk := HKK.out
  have hF : ∀ W, RN W g' (n3 + 1) cp3 → ∀ e : Ending, e = .returned (.tuple #[.agg #[.int .i64 (2 * x0), .int .i64 (ever + 1), .slice none 0 0, .slice (some ⟨g', 0, none⟩) (n3 + 1) cp3], .int .i32 (ever + 1)]) → Below w.heap.size w W → ∃ g' c', e = .returned (.tuple #[.agg #[.int .i64 (2 * x0), .int .i64 (ever + 1), .slice none 0 0, .slice (some ⟨g', 0, none⟩) (n3 + 1) c'], .int .i32 (ever + 1)]) ∧ RN W g' (n3 + 1) c' ∧ Below w.heap.size w W := fun W h1 e h2 h3 => ⟨g', cp3, h2, h1, h3⟩
  have n0 : g' ≠ w.heap.size := by omega
  have n1 : g' ≠ w.heap.size + 1 := by omega
  refine bodyPost_at (b := w.heap.size + 1) (c := #[.int .i64 (2 * x0), .int .i64 (ever + 1), .slice none 0 0, .slice (some ⟨g', 0, none⟩) (n3 + 1) cp3]) (T := 31) (v := .tuple #[.agg #[.int .i64 (2 * x0), .int .i64 (ever + 1), .slice none 0 0, .slice (some ⟨g', 0, none⟩) (n3 + 1) cp3], .int .i32 (ever + 1)]) (((((((E1.out.oth (show w.heap.size + 1 ≠ w.heap.size by omega) _).set 0 _).set 1 _).set 2 _).set 3 _).drew).cast rfl) (fun W hW => ?_) rfl (hF _ (by with_reducible exact RN.drew (RN.oth (RN.oth (RN.oth (RN.oth (RN.oth HN2.out n0 _) n1 _) n1 _) n1 _) n1 _)) _ rfl (by with_reducible repeat (first | exact Below.refl _ _ | assumption | refine Below.drew ?_ | refine Below.alloc ?_ (by simp; try omega) _ | refine Below.setCell ?_ (by simp; try omega) _ | refine pw_drewN ?_ _)))
  obtain ⟨c0, c1, c2, c3, _⟩ := cells4 hW
  simp [results, Try.results37, go_sem, c0, c1, c2, c3]

end


section
variable {w : World} {x0 ever : Int} {g3 n3 c3 : Nat}
set_option maxRecDepth 100000 in
set_option maxHeartbeats 1600000 in
theorem ref3_Free (i : Int) (hi : I32 i) (hev : ever ≤ 1000000) (hyes : isR ever [] i = true) : Calls Try.prog 40 #[.agg #[.int .i64 x0, .int .i64 ever, .slice none 0 0, .slice (some ⟨g3, 0, none⟩) n3 c3], .int .i32 i] w fun e w' =>
    ∃ A' c', e = .returned (.tuple #[.agg #[.int .i64 x0, .int .i64 ever, .slice A' 1 c', .slice (some ⟨g3, 0, none⟩) n3 c3], .bool true]) ∧ Row w' w.heap.size 21 1 (.slice A' 1 c') 1 [.int .i32 i] ∧ Below w.heap.size w w' := by
  obtain ⟨i0, hi0, hz0, hz1, hz2⟩ := info_parts Try.info_i32
  have HIS := hid (fun (W : World) => hyes ▸ ref3_Is (w := W) (x0 := x0) (ever := ever) (A2 := none) (c2 := 0) (A3 := some ⟨g3, 0, none⟩) (n3 := n3) (c3 := c3) (fs := []) (Row.nil _ _ _ _) (by simp) i hi hev)
  have HBX := hid (boxesB w #[.int .i64 x0, .int .i64 ever, .slice none 0 0, .slice (some ⟨g3, 0, none⟩) n3 c3] #[.int .i64 0, .int .i64 0, .slice none 0 0, .slice none 0 0] 31 31)
  have HEM := hid (show ∀ W : World, w.heap.size + 2 ≤ W.heap.size → Row (W.alloc (.cells #[] 21)) (w.heap.size + 2) 21 1 (.slice (some ⟨W.heap.size, 0, none⟩) 0 0) 0 [] from fun W hs => ⟨rfl, .inr ⟨W.heap.size, 0, #[], rfl, by omega, Blk.new' _ _ _ _ rfl, by omega, by simp [maxLen], by simp, rfl⟩⟩)
  clear hyes
  go_enter Try.func40, Try.ntmps40
  go_wp2_with (first | (go_at_call 53; go_must (refine (HIS.out _).mono ?_; rintro e w1 ⟨rfl, hb1⟩; obtain ⟨hk0, hk1, hk2, hk3⟩ := HBX.out _ hb1; obtain ⟨d0, d1, d2, d3, dF⟩ := cells4 hk0; have hl0 : w.heap.size < w1.heap.size := (by omega); have HK0 := hid hk0; have HK1 := hid hk1; have HK2 := hid hk2; have HK3 := hid hk3; clear hk0 hk1 hk2 hb1 hk3)) | (at_builtin; refine wpList_append_row _ rfl (.tmp 11) (.tmp 13) 28 rfl 21 i0 _ 1 4 Try.underlying28 hi0 hz0 hz1 hz2 rfl (by decide) (w.heap.size + 2) _ 0 0 [] rfl (HEM.out w1 HK3.out) _ 0 0 [] rfl (Row.nil _ _ _ _) (by simp) (by unfold maxLen; omega) (by omega) (by have := HK3.out; simp; try omega) ?k; case' k => go_must (intro A1 cp w2 hr2 hk2; rw [Nat.zero_add] at hr2 ⊢; rw [List.nil_append] at hr2; have hb2 := hk2.below (by have := HK3.out; simp; try omega); have HR2 := hid hr2; have HB2 := hid hb2; clear hr2 hk2 hb2)) | (at_builtin; refine wpList_append_any _ rfl (.tmp 14) (.tmp 16) 28 rfl 21 i0 _ 1 4 Try.underlying28 hi0 hz0 hz1 hz2 rfl (by decide) (w.heap.size + 2) (.slice A1 0 cp) 0 [] rfl (HR2.out.below (Below.alloc (Below.refl _ _) (Nat.le_refl _) _)) ⟨w2.heap.size, 0, none⟩ 1 1 [.int .i32 i] rfl rfl (newL _ _ _) (by simp [Value.oneCell']) (by unfold maxLen; omega) (by omega) (by have := HB2.out.size; have := HK3.out; simp at *; omega) ?k2; case' k2 => go_must (intro A3 cp3 w3 hr3 hg3 hk3 ho3 hc3; clear hg3 ho3 hc3; rw [Nat.zero_add] at hr3 ⊢; rw [List.nil_append] at hr3; have hb3 := hk3.below (by have := HB2.out.size; have := HK3.out; simp at *; omega); have e0 := (((HK0.out.alloc _).below HB2.out (by omega)).alloc _).below hb3 (by omega); have e1 := (((HK1.out.alloc _).below HB2.out (by omega)).alloc _).below hb3 (by omega); have hkk : Below w.heap.size w w3 := (((HK2.out.alloc HK2.out.size _).trans (HB2.out.mono (by omega))).alloc (by have := HB2.out.size; have := HK3.out; simp at *; omega) _).trans (hb3.mono (by omega)); obtain ⟨f0, f1, f2, f3, fF⟩ := cells4 e0; obtain ⟨r0, r1, r2, r3, rF⟩ := cells4 e1; have E1 := hid e1; have HR3 := hid hr3; have HKK := hid hkk; clear hr3 hk3 hb3 e0 e1 hkk)))
  have hkk := HKK.out
  have hF : ∀ W, Row W w.heap.size 21 1 (.slice A3 1 cp3) 1 [.int .i32 i] → ∀ e : Ending, e = .returned (.tuple #[.agg #[.int .i64 x0, .int .i64 ever, .slice A3 1 cp3, .slice (some ⟨g3, 0, none⟩) n3 c3], .bool true]) → Below w.heap.size w W → ∃ A' c', e = .returned (.tuple #[.agg #[.int .i64 x0, .int .i64 ever, .slice A' 1 c', .slice (some ⟨g3, 0, none⟩) n3 c3], .bool true]) ∧ Row W w.heap.size 21 1 (.slice A' 1 c') 1 [.int .i32 i] ∧ Below w.heap.size w W := fun W h1 e h2 h3 => ⟨A3, cp3, h2, h1, h3⟩
  refine bodyPost_at (b := w.heap.size + 1) (c := #[.int .i64 x0, .int .i64 ever, .slice A3 1 cp3, .slice (some ⟨g3, 0, none⟩) n3 c3]) (T := 31) (v := .tuple #[.agg #[.int .i64 x0, .int .i64 ever, .slice A3 1 cp3, .slice (some ⟨g3, 0, none⟩) n3 c3], .bool true]) ((((((E1.out.oth (show w.heap.size + 1 ≠ w.heap.size by omega) _).set 0 _).set 1 _).set 2 _).set 3 _).cast rfl) (fun W hW => ?_) rfl (hF _ (Row.mono (B := w.heap.size + 2) (by with_reducible exact Row.oth (Row.oth (Row.oth (Row.oth (Row.oth HR3.out (by show w.heap.size < _; omega) _) (by show w.heap.size + 1 < _; omega) _) (by show w.heap.size + 1 < _; omega) _) (by show w.heap.size + 1 < _; omega) _) (by show w.heap.size + 1 < _; omega) _) (by omega)) _ rfl (by with_reducible repeat (first | exact Below.refl _ _ | assumption | refine Below.drew ?_ | refine Below.alloc ?_ (by simp; try omega) _ | refine Below.setCell ?_ (by simp; try omega) _ | refine pw_drewN ?_ _)))
  obtain ⟨c0, c1, c2, c3, _⟩ := cells4 hW
  simp [results, Try.results40, go_sem, c0, c1, c2, c3]
end

end Go.Proofs.Ytfcfbfingnpnoaa
