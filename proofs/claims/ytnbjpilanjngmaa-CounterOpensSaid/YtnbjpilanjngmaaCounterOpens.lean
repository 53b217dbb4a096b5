/- Of any bytes what was sealed is told, or what is amiss first: the law CounterOpens returns true for every strength, all passwords and all bytes. -/
import Derived.Test.YtnbjpilanjngmaaLaw13b
import Derived.Test.YtnbjpilanjngmaaRow
namespace Go.Proofs.Ytnbjpilanjngmaa.XS
open Go Go.RowKit Go.ChangeShapes Go.WideShapes Go.ChangeAt
set_option linter.unusedVariables false

theorem wf_i64 {n : Int} (h : (Lit.int .i64 n).wf = true) : -9223372036854775808 ≤ n ∧ n ≤ 9223372036854775807 := by
  simpa [Lit.wf, IntKind.min, IntKind.max, IntKind.signed, IntKind.bits] using h
set_option maxHeartbeats 4000000 in
set_option maxRecDepth 100000 in
theorem counterOpens_walk (w : World) (z : Int) (hwz : (Lit.int .i64 z).wf = true) (vp : Value) (pw : List UInt8) (hp : RdB w w.heap.size vp pw) (hlp : pw.length ≤ 140737488351232) (vs : Value) (sd : List UInt8) (hs : RdB w w.heap.size vs sd) (hls : sd.length ≤ 140737488351232) :
    Calls Try.prog 5 #[.int .i64 z, vp, vs] w fun e w' => e = .returned (.bool true) ∧ Below w.heap.size w w' := by
  have HP := Lib.hid hp
  have HS := Lib.hid hs
  obtain ⟨bp, cp, rfl, _, _, _, _⟩ := hp
  obtain ⟨bs, cs, rfl, _, _, _, _⟩ := hs
  have HZ := Lib.hid (wf_i64 hwz); clear hwz
  have hsh := fun w => short_any w bp bs pw.length sd.length cp cs (by omega) (by omega)
  go_enter Try.func5, Try.ntmps5
  cases hB : shortB pw.length sd.length
  case false =>
    rw [hB] at hsh
    have HSH := Lib.hid hsh; clear hsh hB
    go_wp2_with fail
    refine (HSH.out _).mono ?_
    rintro e w1 ⟨rfl, rfl⟩
    go_wp2_with fail
    refine (alive13_any _).mono ?_
    rintro e w3 ⟨rfl, hb3⟩
    have HB3 := Lib.hid hb3
    clear hb3
    go_wp2
    go_ret
    exact ⟨rfl, HB3.out⟩
  case true =>
    obtain ⟨hs1, hs2⟩ := shortB_true hB
    rw [hB] at hsh
    have HSH := Lib.hid hsh; clear hsh hB
    obtain ⟨n, hn⟩ : ∃ n, szN z = n := ⟨_, rfl⟩
    by_cases hok : n ≠ 0 ∧ n / 2 + 12 ≤ sd.length
    · obtain ⟨hn0, hsl⟩ := hok
      have HN := Lib.hid (And.intro hn (And.intro hn0 hsl)); clear hn hn0 hsl
      go_wp2_with fail
      refine (HSH.out _).mono ?_
      rintro e w1 ⟨rfl, rfl⟩
      go_wp2_with fail
      refine (open_ok z pw sd _ _ w.heap.size w (Nat.le_refl _) HP.out HS.out n HN.out.1 HN.out.2.1 HN.out.2.2 (by omega) (by omega)).mono ?_
      rintro e w1 ⟨v1, rfl, hr1, hb1⟩
      have HB1 := Lib.hid hb1
      have hs1' := hb1.size
      have HR1 := Lib.hid hr1
      clear hb1 hr1
      go_wp2_with fail
      refine (open13_ok z HZ.out pw sd _ _ w1 ((HP.out.below HB1.out (Nat.le_refl _)).mono hs1') ((HS.out.below HB1.out (Nat.le_refl _)).mono hs1') n HN.out.1 HN.out.2.1 HN.out.2.2 (by omega) (by omega)).mono ?_
      rintro e w2 ⟨v2, rfl, hr2, hb2⟩
      have HB2 := Lib.hid (HB1.out.trans (hb2.mono hs1'))
      have HR12 := Lib.hid ((HR1.out.below hb2 (Nat.le_refl _)).mono hb2.size)
      have HR2 := Lib.hid hr2
      have hs2' := HB2.out.size
      clear hb2 hr2
      go_wp2_with fail
      refine (alive13_any _).mono ?_
      rintro e w3 ⟨rfl, hb3⟩
      have HB3 := Lib.hid (HB2.out.trans (hb3.mono hs2'))
      have k1 := run_str (HR12.out.below hb3 (Nat.le_refl _))
      have k2 := run_str (HR2.out.below hb3 (Nat.le_refl _))
      clear hb3
      go_wp2
      go_ret
      exact ⟨rfl, HB3.out⟩
    · have hbad : n = 0 ∨ sd.length < n / 2 + 12 := by omega
      have HBAD := Lib.hid (And.intro hn hbad); clear hbad hok hn
      go_wp2_with fail
      refine (HSH.out _).mono ?_
      rintro e w1 ⟨rfl, rfl⟩
      go_wp2_with fail
      refine (open_bad z pw sd _ _ w.heap.size w HS.out n HBAD.out.1 HBAD.out.2).mono ?_
      rintro e w1 ⟨rfl, rfl⟩
      go_wp2_with fail
      refine (open13_bad z HZ.out sd _ _ w.heap.size _ HS.out n HBAD.out.1 HBAD.out.2).mono ?_
      rintro e w1 ⟨rfl, rfl⟩
      go_wp2_with fail
      refine (alive13_any _).mono ?_
      rintro e w2 ⟨rfl, hb2⟩
      have HB2 := Lib.hid hb2; clear hb2
      have k1 := run_str (w := w2) (B := 0) (v := .slice none 0 0) (l := []) ⟨none, 0, rfl, by simp, by omega, fun _ => rfl, fun h => by simp at h⟩
      go_wp2
      go_ret
      exact ⟨rfl, HB2.out⟩
set_option maxRecDepth 100000 in
theorem counterOpens_lifted (os : Os) (started : os.Started) (H : Type) (enc : TypeId × Value → H) :
    ReturnsInHanded {} Try.checked os 5 .any (Rows.counterOpensSpec.pre6 enc Try.prog Try.f5 Rows.counterOpensRow.domain false) (Rows.counterOpensSpec.post enc Try.prog Try.f5 false true false false) := by
  refine returnsInHanded_of_change_sized (C := Try.checked) own12 started (by kernel_rfl) Try.func5
    (ChangeSpec.witness6 (enc := enc) (C := Try.checked) false ⟨#[], #[.int .i64 0, .slice none 0 0, .slice none 0 0], []⟩ 20 (by kernel_rfl) (by kernel_rfl) (by kernel_rfl) (by kernel_rfl)) ?_
  intro W base args ds gs before hval0 hW hcnd hsz _
  have hval : ∀ (j : Nat) t v, Try.f5.params[j]? = some t → args[j]? = some v → Value.okWide Try.prog W .any base t v := hval0
  have hW' := hW
  have hlt := hW.lt
  obtain ⟨p, q, hA0, hV, rfl, hfz, hnd⟩ := hW
  have hA : DataW.TrodAll enc Try.prog W 0 (fun _ => true) true Try.f5.params.toList args.toList ds p := hA0
  rw [Try.params5] at hA hval
  obtain ⟨v0, vs0, d0, ds0, p0, q0, hargs, rfl, rfl, h0, r0⟩ := trodAll_cons hA
  obtain ⟨v1, vs1, d1, ds1, p1, q1, rfl, rfl, rfl, h1, r1⟩ := trodAll_cons r0
  obtain ⟨v2, vs2, d2, ds2, p2, q2, rfl, rfl, rfl, h2, r2⟩ := trodAll_cons r1
  obtain ⟨rfl, rfl, rfl⟩ := trodAll_nil r2
  obtain rfl : args = #[v0, v1, v2] := by cases args; simp_all
  obtain ⟨rfl, rfl⟩ := trodVars_none hV
  obtain ⟨a0, rfl, rfl, rfl, w0⟩ := open_int Try.underlying3 (hval 0 3 v0 rfl rfl) h0
  obtain ⟨a1, ha1, hl1⟩ := open_bytes Try.underlying22 Try.underlying5 (by kernel_rfl) (hval 1 22 v1 rfl rfl) h1 (fun x hx => hlt x (by simp [hx]))
    (fun es sp h => by have := sized_slice (P := Try.prog) hsz (j := 1) (t := 22) rfl (by rw [h]; rfl) Try.underlying22; rw [show Try.prog.bytesOf 5 = 1 by kernel_rfl] at this; unfold reachBytes at this; omega)
  obtain ⟨a2, ha2, hl2⟩ := open_bytes Try.underlying22 Try.underlying5 (by kernel_rfl) (hval 2 22 v2 rfl rfl) h2 (fun x hx => hlt x (by simp [hx]))
    (fun es sp h => by have := sized_slice (P := Try.prog) hsz (j := 2) (t := 22) rfl (by rw [h]; rfl) Try.underlying22; rw [show Try.prog.bytesOf 5 = 1 by kernel_rfl] at this; unfold reachBytes at this; omega)
  exact (counterOpens_walk W a0 w0 v1 a1 ha1 hl1 v2 a2 ha2 hl2).mono fun e W' ⟨he, hb⟩ => ⟨_, he, law_post (by kernel_rfl) rfl rfl rfl rfl hW' hb⟩
theorem counterOpens_over : Rows.counterOpensRow.holds Try.pinned (OpenSpec.ofChange Rows.counterOpensSpec) :=
  OpenClaim.holds_of_wide 5 Try.f5 rfl rfl rfl rfl rfl rfl rfl ⟨rfl, rfl, rfl, rfl, rfl⟩ rfl rfl rfl rfl rfl (by kernel_rfl) Try.func5 (by kernel_rfl)
    (of_decide_eq_true (by kernel_rfl)) (by unfold Func.isWrapper; first | (rw [if_pos (by decide +kernel)]; kernel_rfl) | (rw [if_neg (by decide +kernel)]; exact ⟨rfl, rfl⟩))
    (fun os started H enc _ => counterOpens_lifted os started H enc)
end Go.Proofs.Ytnbjpilanjngmaa.XS
namespace Go.Proofs.Ytnbjpilanjngmaa
theorem counterOpens_holds : Rows.CounterOpensSaid := XS.counterOpens_over
end Go.Proofs.Ytnbjpilanjngmaa
