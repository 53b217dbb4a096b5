/- The walks over package counter, second part: a strength's size, the keys. -/
import Derived.Test.YtnbjpilanjngmaaCtr1
namespace Go.Proofs.Ytnbjpilanjngmaa.XS
open Go Go.RowKit

theorem RdB.ofCells {w : World} {g o n cap : Nat} {f : Nat → UInt8} (hlt : g < w.heap.size) (hn : n ≤ cap) (hc : cap ≤ 9223372036854775807) (h : ∀ i, i < n → w.cell? ⟨g, o + i, none⟩ = some (.int .u8 ((f i).toNat : Int))) : RdB w w.heap.size (.slice (some ⟨g, o, none⟩) n cap) (mk n f) := by
  refine ⟨_, cap, by rw [mk_length], by rw [mk_length]; exact hn, hc, (fun e => by cases e), fun _ => ⟨g, o, rfl, hlt, fun i hi => ?_⟩⟩
  rw [mk_length] at hi
  rw [mk_get hi]; exact h i hi
/-- How many bytes a key has. -/
def szN (z : Int) : Nat := if z = 3 then 32 else if z = 2 then 24 else if z = 1 then 16 else 0
set_option maxHeartbeats 1000000 in
theorem size_any (z : Int) (w : World) :
    Calls Try.prog 23 #[.int .i64 z] w fun e w' => e = .returned (.int .i64 (szN z : Int)) ∧ w = w' := by
  by_cases h3 : z = 3
  · have e : szN z = 32 := by unfold szN; rw [if_pos h3]
    have E := Lib.hid e; clear e
    have b3 : (z == 3) = true := by rw [h3]; rfl
    go_enter Try.func23, Try.ntmps23
    go_wp2
    go_ret
    exact ⟨by rw [E.out]; rfl, rfl⟩
  · have b3 : (z == 3) = false := by rw [beq_eq_false_iff_ne]; exact h3
    by_cases h2 : z = 2
    · have e : szN z = 24 := by unfold szN; rw [if_neg h3, if_pos h2]
      have E := Lib.hid e; clear e
      have b2 : (z == 2) = true := by rw [h2]; rfl
      clear h3
      go_enter Try.func23, Try.ntmps23
      go_wp2
      go_ret
      exact ⟨by rw [E.out]; rfl, rfl⟩
    · have b2 : (z == 2) = false := by rw [beq_eq_false_iff_ne]; exact h2
      by_cases h1 : z = 1
      · have e : szN z = 16 := by unfold szN; rw [if_neg h3, if_neg h2, if_pos h1]
        have E := Lib.hid e; clear e
        have b1 : (z == 1) = true := by rw [h1]; rfl
        clear h3 h2
        go_enter Try.func23, Try.ntmps23
        go_wp2
        go_ret
        exact ⟨by rw [E.out]; rfl, rfl⟩
      · have b1 : (z == 1) = false := by rw [beq_eq_false_iff_ne]; exact h1
        have e : szN z = 0 := by unfold szN; rw [if_neg h3, if_neg h2, if_neg h1]
        have E := Lib.hid e; clear e h1 h2 h3
        go_enter Try.func23, Try.ntmps23
        go_wp2
        go_ret
        exact ⟨by rw [E.out]; rfl, rfl⟩

set_option maxHeartbeats 1000000 in
set_option maxRecDepth 100000 in
theorem keys_any (n : Nat) (pw salt : List UInt8) (vp vs : Value) (B : Nat) (w : World) (hn : n = 16 ∨ n = 24 ∨ n = 32) (hB : B ≤ w.heap.size) (hp : RdB w B vp pw) (hs : RdB w B vs salt) (hlp : pw.length ≤ 140737488360000) (hls : salt.length ≤ 1000000) :
    Calls Try.prog 24 #[.int .i64 (n : Int), vp, vs] w fun e w' => ∃ v1 v2 v3, e = .returned (.tuple #[v1, v2, v3]) ∧ RdB w' w'.heap.size v1 (mk n (pbk pw salt 1000)) ∧ RdB w' w'.heap.size v2 (mk n fun i => pbk pw salt 1000 (n + i)) ∧ RdB w' w'.heap.size v3 (mk 2 fun i => pbk pw salt 1000 (2 * n + i)) ∧ Below w.heap.size w w' := by
  have HP := Lib.hid hp; clear hp
  have HS := Lib.hid hs; clear hs
  have hb : n ≤ 32 := by omega
  have hb2 : 16 ≤ n := by omega
  go_enter Try.func24, Try.ntmps24
  go_wp2_with fail
  refine (mkey_any pw salt vp vs 1000 (2 * n + 2) B _ hB HP.out HS.out hlp hls (by omega) (by omega)).mono ?_
  rintro e w1 ⟨v, rfl, ho, hb1⟩
  have HB1 := Lib.hid hb1; clear hb1
  obtain ⟨g, cap, rfl, hg1, hg2, hc1, hc2⟩ := ho.form (by rw [mk_length]; omega)
  rw [mk_length] at ho hc1 ⊢
  have HO := Lib.hid ho; clear ho
  have k1 : (n : Int) ≤ (cap : Int) := by omega
  have k2 : 2 * (n : Int) ≤ (cap : Int) := by omega
  have k3 : 2 * (n : Int) ≤ 2 * (n : Int) + 2 := by omega
  have k4 : (n : Int) ≤ 2 * (n : Int) := by omega
  have k5 : ¬ cap = n := by omega
  have k6 : ¬ cap = 2 * n := by omega
  go_wp2
  refine wp_region_reads (by kernel_rfl) (by kernel_rfl) (by kernel_rfl) (by kernel_rfl) fun K hK => ?_
  go_wp2
  refine hK _ _ ⟨by rfl, ?_⟩
  clear hK K
  go_wp2
  refine bodyPost_ret (results_tmp3 rfl _ _ _) rfl ?_
  have hcell : ∀ i, i < 2 * n + 2 → w1.drew.cell? ⟨g, i, none⟩ = some (.int .u8 ((pbk pw salt 1000 i).toNat : Int)) := fun i hi => by
    have h := OwnB.cell (l := mk (2 * n + 2) (pbk pw salt 1000)) (g := g) (cap := cap) (by rw [mk_length]; exact HO.out) (j := i) (by rw [mk_length]; exact hi)
    rwa [mk_get hi] at h
  refine ⟨_, _, _, rfl, ?_, ?_, ?_, HB1.out.drew⟩
  · exact RdB.ofCells hg2 (by omega) (by omega) fun i hi => by rw [Nat.zero_add]; exact hcell i (by omega)
  · rw [show 2 * n - n = n by omega]
    exact RdB.ofCells hg2 (by omega) (by omega) fun i hi => hcell (n + i) (by omega)
  · rw [show 2 * n + 2 - 2 * n = 2 by omega]
    exact RdB.ofCells hg2 (by omega) (by omega) fun i hi => hcell (2 * n + i) (by omega)
end Go.Proofs.Ytnbjpilanjngmaa.XS
