/- Unlike bytes become unlike bytes, none itself: the law CipherBox returns true for every two bytes. -/
import Derived.Test.YtkdebhdfbpbcoaaLaw12a
import Derived.Test.YtkdebhdfbpbcoaaRow
namespace Go.Proofs.Ytkdebhdfbpbcoaa.XS
open Go Go.RowKit Go.ChangeShapes Go.WideShapes Go.ChangeAt
set_option linter.unusedVariables false

/-- The box turned round. -/
def boxI : List UInt8 := (List.range 256).map fun y => (((List.range 256).find? fun x => bx (UInt8.ofNat x) == UInt8.ofNat y).map UInt8.ofNat).getD 0
def boxChk : Bool := (List.range 256).all fun x => (bx (UInt8.ofNat x) != UInt8.ofNat x) && (boxI[(bx (UInt8.ofNat x)).toNat]?.getD 0 == UInt8.ofNat x)
theorem boxChk_true : boxChk = true := by kernel_rfl
theorem bx_ne (a : UInt8) : bx a ≠ a := by
  have h := List.all_eq_true.1 boxChk_true a.toNat (by simpa using a.toNat_lt)
  simp only [Bool.and_eq_true, UInt8.ofNat_toNat] at h
  simpa using h.1
theorem bx_inj {a b : UInt8} (e : bx a = bx b) : a = b := by
  have h := List.all_eq_true.1 boxChk_true a.toNat (by simpa using a.toNat_lt)
  have k := List.all_eq_true.1 boxChk_true b.toNat (by simpa using b.toNat_lt)
  simp only [Bool.and_eq_true, UInt8.ofNat_toNat] at h k
  have h2 := beq_iff_eq.1 h.2
  have k2 := beq_iff_eq.1 k.2
  rw [← h2, ← k2, e]

set_option maxHeartbeats 1000000 in
theorem cipherBox_walk (a b : UInt8) (w : World) :
    Calls Try.prog 7 #[.int .u8 (a.toNat : Int), .int .u8 (b.toNat : Int)] w fun e w' => e = .returned (.bool true) ∧ Below w.heap.size w w' := by
  have t1 : ((((bx a).toNat : Int) == ((bx b).toNat : Int)) == ((a.toNat : Int) == (b.toNat : Int))) = true := by
    have h1 : (((bx a).toNat : Int) = ((bx b).toNat : Int)) ↔ ((a.toNat : Int) = (b.toNat : Int)) :=
      ⟨fun h => congrArg (fun x : UInt8 => (x.toNat : Int)) (bx_inj (UInt8.toNat_inj.1 (by omega))), fun h => congrArg (fun x : UInt8 => ((bx x).toNat : Int)) (UInt8.toNat_inj.1 (by omega))⟩
    rw [beq_iff_eq, Bool.eq_iff_iff, beq_iff_eq, beq_iff_eq]; exact h1
  have t2 : (((bx a).toNat : Int) != (a.toNat : Int)) = true := by
    rw [bne_iff_ne]; intro h; exact bx_ne a (UInt8.toNat_inj.1 (by omega))
  have T1 := Lib.hid t1; clear t1
  have T2 := Lib.hid t2; clear t2
  go_enter Try.func7, Try.ntmps7
  go_wp2_with fail
  refine (alive12_any _).mono ?_
  rintro e w1 ⟨rfl, hb1⟩
  have HB1 := Lib.hid hb1; clear hb1
  go_wp2_with fail
  refine (box1_any _ _).mono ?_
  rintro e w2 ⟨rfl, hb2⟩
  have HB2 := Lib.hid (HB1.out.trans (hb2.mono HB1.out.size)); clear hb2
  go_wp2_with fail
  refine (box1_any _ _).mono ?_
  rintro e w3 ⟨rfl, hb3⟩
  have HB3 := Lib.hid (HB2.out.trans (hb3.mono HB2.out.size)); clear hb3
  have t1 := T1.out
  go_wp2_with fail
  clear t1
  refine (box1_any _ _).mono ?_
  rintro e w4 ⟨rfl, hb4⟩
  have HB4 := Lib.hid (HB3.out.trans (hb4.mono HB3.out.size)); clear hb4
  have t2 := T2.out
  go_wp2
  go_ret
  exact ⟨rfl, HB4.out⟩

set_option maxRecDepth 100000 in
theorem cipherBox_lifted (os : Os) (started : os.Started) (H : Type) (enc : TypeId × Value → H) :
    ReturnsInHanded {} Try.checked os 7 .any (Rows.cipherBoxSpec.pre6 enc Try.prog Try.f7 Rows.cipherBoxRow.domain false) (Rows.cipherBoxSpec.post enc Try.prog Try.f7 false true false false) := by
  refine returnsInHanded_of_change (C := Try.checked) own12 started (by kernel_rfl) Try.func7
    (ChangeSpec.witness6 (enc := enc) (C := Try.checked) false ⟨#[], #[.int .u8 0, .int .u8 0], []⟩ 8 (by kernel_rfl) (by kernel_rfl) (by kernel_rfl) (by kernel_rfl)) ?_
  intro W base args ds gs before hval0 hW hcnd _
  have hval : ∀ (j : Nat) t v, Try.f7.params[j]? = some t → args[j]? = some v → Value.okWide Try.prog W .any base t v := hval0
  have hW' := hW
  obtain ⟨p, q, hA0, hV, rfl, hfz, hnd⟩ := hW
  have hA : DataW.TrodAll enc Try.prog W 0 (fun _ => true) true Try.f7.params.toList args.toList ds p := hA0
  rw [Try.params7] at hA hval
  obtain ⟨v0, vs0, d0, ds0, p0, q0, hargs, rfl, rfl, h0, r0⟩ := trodAll_cons hA
  obtain ⟨v1, vs1, d1, ds1, p1, q1, rfl, rfl, rfl, h1, r1⟩ := trodAll_cons r0
  obtain ⟨rfl, rfl, rfl⟩ := trodAll_nil r1
  obtain rfl : args = #[v0, v1] := by cases args; simp_all
  obtain ⟨rfl, rfl⟩ := trodVars_none hV
  obtain ⟨a, rfl⟩ := open_u8 Try.underlying5 (hval 0 5 v0 rfl rfl) h0
  obtain ⟨b, rfl⟩ := open_u8 Try.underlying5 (hval 1 5 v1 rfl rfl) h1
  exact (cipherBox_walk a b W).mono fun e W' ⟨he, hb⟩ => ⟨_, he, law_post (by kernel_rfl) rfl rfl rfl rfl hW' hb⟩

theorem cipherBox_over : Rows.cipherBoxRow.holds Try.pinned (OpenSpec.ofChange Rows.cipherBoxSpec) :=
  OpenClaim.holds_of_wide 7 Try.f7 rfl rfl rfl rfl rfl rfl rfl ⟨rfl, rfl, rfl, rfl, rfl⟩ rfl rfl rfl rfl rfl (by kernel_rfl) Try.func7 (by kernel_rfl)
    (of_decide_eq_true (by kernel_rfl)) (by unfold Func.isWrapper; first | (rw [if_pos (by decide +kernel)]; kernel_rfl) | (rw [if_neg (by decide +kernel)]; exact ⟨rfl, rfl⟩))
    (fun os started H enc _ => cipherBox_lifted os started H enc)
end Go.Proofs.Ytkdebhdfbpbcoaa.XS
namespace Go.Proofs.Ytkdebhdfbpbcoaa
theorem cipherBox_holds : Rows.CipherBoxSaid := XS.cipherBox_over
end Go.Proofs.Ytkdebhdfbpbcoaa
