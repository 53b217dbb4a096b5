/- What was sealed is opened as it was: the law CounterBack returns true for every case. -/
import Derived.Test.YtnbjpilanjngmaaLaw13a
import Derived.Test.YtnbjpilanjngmaaRow13
namespace Go.Proofs.Ytnbjpilanjngmaa.XS
open Go Go.RowKit Go.ChangeShapes Go.WideShapes Go.ChangeAt
set_option linter.unusedVariables false

set_option maxHeartbeats 2000000 in
set_option maxRecDepth 100000 in
theorem counterBack_walk (w : World) (z : Int) (vp vs vd : Value) (pw salt data : List UInt8) (hp : RdB w w.heap.size vp pw) (hlp : pw.length ≤ 140737488351232) (hs : RdB w w.heap.size vs salt) (hls : salt.length ≤ 140737488351232) (hd : RdB w w.heap.size vd data) (hld : data.length ≤ 140737488351232) :
    Calls Try.prog 6 #[.agg #[.int .i64 z, vp, vs, vd]] w fun e w' => e = .returned (.bool true) ∧ Below w.heap.size w w' := by
  have HP := Lib.hid hp; clear hp
  have HS := Lib.hid hs; clear hs
  have HD := Lib.hid hd; clear hd
  obtain ⟨n, hn⟩ : ∃ n, szN z = n := ⟨_, rfl⟩
  by_cases hok : n ≠ 0 ∧ 2 * salt.length = n
  · obtain ⟨hn0, hsl⟩ := hok
    have HN := Lib.hid (And.intro hn (And.intro hn0 hsl)); clear hn hn0 hsl
    go_enter Try.func6, Try.ntmps6
    have HB0 := Lib.hid ((Below.refl w.heap.size w).alloc (Nat.le_refl _) (Obj.cells #[Value.int .i64 z, vp, vs, vd] 29))
    have HC0 := Lib.hid (Blk.new w #[Value.int .i64 z, vp, vs, vd] 29)
    have hz0 : (w.alloc (Obj.cells #[Value.int .i64 z, vp, vs, vd] 29)).heap.size = w.heap.size + 1 := by simp
    go_wp2_with fail
    refine (seal_ok z pw salt data vp vs vd w.heap.size _ (by omega) (HP.out.below HB0.out (Nat.le_refl _)) (HS.out.below HB0.out (Nat.le_refl _)) (HD.out.below HB0.out (Nat.le_refl _)) n HN.out.1 HN.out.2.1 HN.out.2.2 (by omega) (by omega)).mono ?_
    rintro e w1 ⟨v, rfl, hf, hb1⟩
    have HB1 := Lib.hid (HB0.out.trans (hb1.mono HB0.out.size))
    have HC1 := Lib.hid (HC0.out.below hb1 HC0.out.lt)
    have hs1 := HB1.out.size
    have hlt1 := HC1.out.lt
    have HRD := Lib.hid hf.rd
    obtain ⟨g, cap, rfl, hg, hc1, hc2, _, _⟩ := hf
    have hlen : (sealB n pw salt data).length = salt.length + data.length + 12 := sealB_length
    have HLEN := Lib.hid hlen
    have hE := back_err (pw := pw) (data := data) HN.out.2.2 HN.out.2.1
    have hD := back_data (pw := pw) (data := data) HN.out.2.2 HN.out.2.1
    generalize sealB n pw salt data = SD at *
    have HE := Lib.hid hE
    have HDD := Lib.hid hD
    clear hE hD hb1 hlen
    have c0 : w1.cell? ⟨w.heap.size, 0, none⟩ = some (.int .i64 z) := HC1.out.cell rfl
    have c1 : w1.cell? ⟨w.heap.size, 1, none⟩ = some vp := HC1.out.cell rfl
    go_wp2_with fail
    refine (open_ok z pw SD vp _ w1.heap.size _ (Nat.le_refl _) ((HP.out.below HB1.out (Nat.le_refl _)).mono hs1) HRD.out n HN.out.1 HN.out.2.1 (by have h1 := HLEN.out; have h2 := HN.out.2.2; omega) (by omega) (by have h1 := HLEN.out; have h2 := HN.out.2.2; have h3 := szN_cases z; have h4 := HN.out.1; omega)).mono ?_
    rintro e w2 ⟨v2, rfl, hr2, hb2⟩
    rw [HE.out]
    rw [HDD.out] at hr2
    have HB2 := Lib.hid (HB1.out.trans (hb2.mono hs1))
    have HC2 := Lib.hid (HC1.out.below hb2 hlt1)
    have HR2 := Lib.hid hr2
    have hs2 := hb2.size
    clear hb2 hr2 c0 c1
    go_wp2_with fail
    refine (alive13_any _).mono ?_
    rintro e w3 ⟨rfl, hb3⟩
    have HB3 := Lib.hid (HB2.out.trans (hb3.mono (by omega)))
    have HC3 := Lib.hid (HC2.out.below hb3 HC2.out.lt)
    have c3 : w3.cell? ⟨w.heap.size, 3, none⟩ = some vd := HC3.out.cell rfl
    have k1 := run_str (HR2.out.below hb3 (Nat.le_refl _))
    have k2 := run_str (HD.out.below HB3.out (Nat.le_refl _))
    clear hb3
    go_wp2
    go_ret
    exact ⟨rfl, HB3.out⟩
  · have hbad : szN z = 0 ∨ 2 * salt.length ≠ szN z := by
      rw [hn]
      rcases Nat.eq_zero_or_pos n with h | h
      · exact .inl h
      · exact .inr fun e => hok ⟨by omega, e⟩
    have HBAD := Lib.hid hbad; clear hbad hok hn
    have HB0 := Lib.hid ((Below.refl w.heap.size w).alloc (Nat.le_refl _) (Obj.cells #[Value.int .i64 z, vp, vs, vd] 29))
    go_enter Try.func6, Try.ntmps6
    go_wp2_with fail
    refine (seal_bad z pw salt data vp vs vd w.heap.size _ (HS.out.below HB0.out (Nat.le_refl _)) HBAD.out).mono ?_
    rintro e w1 ⟨rfl, rfl⟩
    go_wp2_with fail
    refine (alive13_any _).mono ?_
    rintro e w2 ⟨rfl, hb2⟩
    have HB2 := Lib.hid (HB0.out.trans (hb2.mono HB0.out.size)); clear hb2
    go_wp2
    go_ret
    exact ⟨rfl, HB2.out⟩
set_option maxRecDepth 100000 in
theorem counterBack_lifted (os : Os) (started : os.Started) (H : Type) (enc : TypeId × Value → H) :
    ReturnsInHanded {} Try.checked os 6 .any (Rows.counterBackSpec.pre6 enc Try.prog Try.f6 Rows.counterBackRow.domain false) (Rows.counterBackSpec.post enc Try.prog Try.f6 false true false false) := by
  refine returnsInHanded_of_change_sized (C := Try.checked) own12 started (by kernel_rfl) Try.func6
    (ChangeSpec.witness6 (enc := enc) (C := Try.checked) false ⟨#[], #[.agg #[.int .i64 0, .slice none 0 0, .slice none 0 0, .slice none 0 0]], []⟩ 20 (by kernel_rfl) (by kernel_rfl) (by kernel_rfl) (by kernel_rfl)) ?_
  intro W base args ds gs before hval0 hW hcnd hsz _
  have hval : ∀ (j : Nat) t v, Try.f6.params[j]? = some t → args[j]? = some v → Value.okWide Try.prog W .any base t v := hval0
  have hW' := hW
  have hlt := hW.lt
  obtain ⟨p, q, hA0, hV, rfl, hfz, hnd⟩ := hW
  have hA : DataW.TrodAll enc Try.prog W 0 (fun _ => true) true Try.f6.params.toList args.toList ds p := hA0
  rw [Try.params6] at hA hval
  obtain ⟨v0, vs0, d0, ds0, p0, q0, hargs, rfl, rfl, h0, r0⟩ := trodAll_cons hA
  obtain ⟨rfl, rfl, rfl⟩ := trodAll_nil r0
  obtain rfl : args = #[v0] := by cases args; simp_all
  obtain ⟨rfl, rfl⟩ := trodVars_none hV
  obtain ⟨z0, vp0, vs0, vd0, pw0, salt0, data0, rfl, rp0, lp0, rs0, ls0, rd0, ld0⟩ := open_case (hval 0 29 v0 rfl rfl) h0 (fun x hx => hlt x (by simp [hx])) (fun n hn => by simpa using List.all_eq_true.1 hsz _ (DataW.weights_mem_each (j := 0) rfl rfl n hn))
  exact (counterBack_walk W z0 vp0 vs0 vd0 pw0 salt0 data0 rp0 lp0 rs0 ls0 rd0 ld0).mono fun e W' ⟨he, hb⟩ => ⟨_, he, law_post (by kernel_rfl) rfl rfl rfl rfl hW' hb⟩
theorem counterBack_over : Rows.counterBackRow.holds Try.pinned (OpenSpec.ofChange Rows.counterBackSpec) :=
  OpenClaim.holds_of_wide 6 Try.f6 rfl rfl rfl rfl rfl rfl rfl ⟨rfl, rfl, rfl, rfl, rfl⟩ rfl rfl rfl rfl rfl (by kernel_rfl) Try.func6 (by kernel_rfl)
    (of_decide_eq_true (by kernel_rfl)) (by unfold Func.isWrapper; first | (rw [if_pos (by decide +kernel)]; kernel_rfl) | (rw [if_neg (by decide +kernel)]; exact ⟨rfl, rfl⟩))
    (fun os started H enc _ => counterBack_lifted os started H enc)
end Go.Proofs.Ytnbjpilanjngmaa.XS
namespace Go.Proofs.Ytnbjpilanjngmaa
theorem counterBack_holds : Rows.CounterBackSaid := XS.counterBack_over
end Go.Proofs.Ytnbjpilanjngmaa
