/- Products do not hang on the order, nor on which two of three are taken first; they spread over xor: the law CipherLaws returns true for every three bytes. -/
import Derived.Test.YtkdebhdfbpbcoaaLaw12a
import Derived.Test.YtkdebhdfbpbcoaaRow
import Derived.Test.YtkdebhdfbpbcoaaGf
namespace Go.Proofs.Ytkdebhdfbpbcoaa.XS
open Go Go.RowKit Go.ChangeShapes Go.WideShapes Go.ChangeAt
set_option linter.unusedVariables false
attribute [local go_sem] bits_xr

theorem i8_eq {x y : UInt8} (h : x = y) : (((x.toNat : Int) == (y.toNat : Int))) = true := by rw [h]; exact beq_self_eq_true _
set_option maxHeartbeats 2000000 in
theorem cipherLaws_walk (w : World) (a b c : UInt8) :
    Calls Try.prog 6 #[.int .u8 (a.toNat : Int), .int .u8 (b.toNat : Int), .int .u8 (c.toNat : Int)] w fun e w' => e = .returned (.bool true) ∧ Below w.heap.size w w' := by
  have t1 := Lib.hid (i8_eq (tms_comm a b))
  have t2 := Lib.hid (i8_eq (tms_assoc a b c))
  have t3 := Lib.hid (i8_eq (show tms a (xr b c) = xr (tms a b) (tms a c) from tms_add_r a b c))
  have t4 := Lib.hid (i8_eq (tms_one a))
  go_enter Try.func6, Try.ntmps6
  go_wp2_with fail
  refine (times_any _ _ _).mono ?_
  rintro e w1 ⟨rfl, rfl⟩
  go_wp2_with fail
  refine (times_any _ _ _).mono ?_
  rintro e w1 ⟨rfl, rfl⟩
  go_wp2_with fail
  refine (alive12_any _).mono ?_
  rintro e w1 ⟨rfl, hb1⟩
  have HB1 := Lib.hid hb1; clear hb1
  go_wp2_with fail
  refine (times_any _ _ _).mono ?_
  rintro e w2 ⟨rfl, rfl⟩
  have e1 := t1.out
  go_wp2_with fail
  refine (times_any _ _ _).mono ?_
  rintro e w2 ⟨rfl, rfl⟩
  go_wp2_with fail
  refine (times_any _ _ _).mono ?_
  rintro e w2 ⟨rfl, rfl⟩
  have e2 := t2.out
  go_wp2_with fail
  refine (times_any _ _ _).mono ?_
  rintro e w2 ⟨rfl, rfl⟩
  go_wp2_with fail
  refine (times_any _ _ _).mono ?_
  rintro e w2 ⟨rfl, rfl⟩
  have e3 := t3.out
  go_wp2_with fail
  refine (times_any 1 _ _).mono ?_
  rintro e w2 ⟨rfl, rfl⟩
  have e4 := t4.out
  go_wp2
  go_ret
  exact ⟨rfl, HB1.out⟩

set_option maxRecDepth 100000 in
theorem cipherLaws_lifted (os : Os) (started : os.Started) (H : Type) (enc : TypeId × Value → H) :
    ReturnsInHanded {} Try.checked os 6 .any (Rows.cipherLawsSpec.pre6 enc Try.prog Try.f6 Rows.cipherLawsRow.domain false) (Rows.cipherLawsSpec.post enc Try.prog Try.f6 false true false false) := by
  refine returnsInHanded_of_change (C := Try.checked) own12 started (by kernel_rfl) Try.func6
    (ChangeSpec.witness6 (enc := enc) (C := Try.checked) false ⟨#[], #[.int .u8 0, .int .u8 0, .int .u8 0], []⟩ 20 (by kernel_rfl) (by kernel_rfl) (by kernel_rfl) (by kernel_rfl)) ?_
  intro W base args ds gs before hval0 hW hcnd _
  have hval : ∀ (j : Nat) t v, Try.f6.params[j]? = some t → args[j]? = some v → Value.okWide Try.prog W .any base t v := hval0
  have hW' := hW
  have hlt := hW.lt
  obtain ⟨p, q, hA0, hV, rfl, hfz, hnd⟩ := hW
  have hA : DataW.TrodAll enc Try.prog W 0 (fun _ => true) true Try.f6.params.toList args.toList ds p := hA0
  rw [Try.params6] at hA hval
  obtain ⟨v0, vs0, d0, ds0, p0, q0, hargs, rfl, rfl, h0, r0⟩ := trodAll_cons hA
  obtain ⟨v1, vs1, d1, ds1, p1, q1, rfl, rfl, rfl, h1, r1⟩ := trodAll_cons r0
  obtain ⟨v2, vs2, d2, ds2, p2, q2, rfl, rfl, rfl, h2, r2⟩ := trodAll_cons r1
  obtain ⟨rfl, rfl, rfl⟩ := trodAll_nil r2
  obtain rfl : args = #[v0, v1, v2] := by cases args; simp_all
  obtain ⟨rfl, rfl⟩ := trodVars_none hV
  obtain ⟨a0, rfl⟩ := open_u8 Try.underlying5 (hval 0 5 v0 rfl rfl) h0
  obtain ⟨a1, rfl⟩ := open_u8 Try.underlying5 (hval 1 5 v1 rfl rfl) h1
  obtain ⟨a2, rfl⟩ := open_u8 Try.underlying5 (hval 2 5 v2 rfl rfl) h2
  exact (cipherLaws_walk W a0 a1 a2).mono fun e W' ⟨he, hb⟩ => ⟨_, he, law_post (by kernel_rfl) rfl rfl rfl rfl hW' hb⟩
theorem cipherLaws_over : Rows.cipherLawsRow.holds Try.pinned (OpenSpec.ofChange Rows.cipherLawsSpec) :=
  OpenClaim.holds_of_wide 6 Try.f6 rfl rfl rfl rfl rfl rfl rfl ⟨rfl, rfl, rfl, rfl, rfl⟩ rfl rfl rfl rfl rfl (by kernel_rfl) Try.func6 (by kernel_rfl)
    (of_decide_eq_true (by kernel_rfl)) (by unfold Func.isWrapper; first | (rw [if_pos (by decide +kernel)]; kernel_rfl) | (rw [if_neg (by decide +kernel)]; exact ⟨rfl, rfl⟩))
    (fun os started H enc _ => cipherLaws_lifted os started H enc)
end Go.Proofs.Ytkdebhdfbpbcoaa.XS
namespace Go.Proofs.Ytkdebhdfbpbcoaa
theorem cipherLaws_holds : Rows.CipherLawsSaid := XS.cipherLaws_over
end Go.Proofs.Ytkdebhdfbpbcoaa
