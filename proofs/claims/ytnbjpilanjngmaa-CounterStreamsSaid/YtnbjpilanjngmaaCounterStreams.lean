/- Any data is xored with what any key that may be makes of numbers, as the document says: the law CounterStreams returns true for every key and all data. -/
import Derived.Test.YtnbjpilanjngmaaLaw13a
import Derived.Test.YtnbjpilanjngmaaRow
import Derived.Test.YtnbjpilanjngmaaLaw13b
namespace Go.Proofs.Ytnbjpilanjngmaa.XS
open Go Go.RowKit Go.ChangeShapes Go.WideShapes Go.ChangeAt
set_option linter.unusedVariables false

set_option maxHeartbeats 2000000 in
set_option maxRecDepth 100000 in
theorem counterStreams_walk (w : World) (vk : Value) (key : List UInt8) (hk : RdB w w.heap.size vk key) (hlk : key.length ≤ 140737488351232) (vd : Value) (data : List UInt8) (hd : RdB w w.heap.size vd data) (hld : data.length ≤ 140737488351232) :
    Calls Try.prog 3 #[vk, vd] w fun e w' => e = .returned (.bool true) ∧ Below w.heap.size w w' := by
  have HK := Lib.hid hk
  have HD := Lib.hid hd
  obtain ⟨bk, ck, rfl, hk1, hk2, _, _⟩ := hk
  obtain ⟨bd, cd, rfl, hd1, hd2, _, _⟩ := hd
  have hsh := fun w => short_any w bk bd key.length data.length ck cd (by omega) (by omega)
  cases hB : shortB key.length data.length
  case true =>
      obtain ⟨hs1, hs2⟩ := shortB_true hB
      rw [hB] at hsh
      have HSH := Lib.hid hsh; clear hsh hB
      by_cases hkl : key.length = 16 ∨ key.length = 24 ∨ key.length = 32
      · obtain ⟨n, hn, hl⟩ := keyNS hkl
        have HN := Lib.hid hn; clear hn
        have HL := Lib.hid hl; clear hl hkl
        go_enter Try.func3, Try.ntmps3
        go_wp2_with fail
        refine (HSH.out _).mono ?_
        rintro e w1 ⟨rfl, rfl⟩
        go_wp2_with fail
        refine (stream_ok _ _ _ key data n w.heap.size (Nat.le_refl _) HK.out HD.out HL.out HN.out (by omega)).mono ?_
        rintro e w1 ⟨ob, hob1, rfl, hob, hb1⟩
        have HB1 := Lib.hid hb1
        have hs1' := hb1.size
        have HOB := Lib.hid hob
        clear hb1 hob
        go_wp2_with fail
        refine (stream13_ok w1 _ _ key data n ((HK.out.below HB1.out (Nat.le_refl _)).mono hs1') ((HD.out.below HB1.out (Nat.le_refl _)).mono hs1') HL.out HN.out (by omega)).mono ?_
        rintro e w2 ⟨v2, rfl, ho2, hb2⟩
        have HB2 := Lib.hid (HB1.out.trans (hb2.mono hs1'))
        have HOB2 := Lib.hid (HOB.out.below hb2 HOB.out.lt)
        have HR2 := Lib.hid ho2.rd
        have hs2' := HB2.out.size
        clear hb2 ho2
        go_wp2_with fail
        refine (alive13_any _).mono ?_
        rintro e w3 ⟨rfl, hb3⟩
        have HB3 := Lib.hid (HB2.out.trans (hb3.mono hs2'))
        have hx := RdB.ofBlk (HOB2.out.below hb3 HOB2.out.lt) (by rw [mk_length]; omega)
        rw [mk_length] at hx
        have k1 := run_str hx
        have k2 := run_str (HR2.out.below hb3 (Nat.le_refl _))
        clear hb3 hx
        go_wp2
        go_ret
        exact ⟨rfl, HB3.out⟩
      · have h16 : key.length ≠ 16 := fun h => hkl (.inl h)
        have h24 : key.length ≠ 24 := fun h => hkl (.inr (.inl h))
        have h32 : key.length ≠ 32 := fun h => hkl (.inr (.inr h))
        have HN := Lib.hid (And.intro h16 (And.intro h24 h32))
        clear h16 h24 h32 hkl
        go_enter Try.func3, Try.ntmps3
        go_wp2_with fail
        refine (HSH.out _).mono ?_
        rintro e w1 ⟨rfl, rfl⟩
        go_wp2_with fail
        refine (stream_bad _ _ _ key w.heap.size (Nat.le_refl _) HK.out HN.out.1 HN.out.2.1 HN.out.2.2).mono ?_
        rintro e w1 ⟨rfl, rfl⟩
        go_wp2_with fail
        refine (stream13_bad _ _ _ key HK.out HN.out.1 HN.out.2.1 HN.out.2.2).mono ?_
        rintro e w1 ⟨rfl, hb1⟩
        have HB1 := Lib.hid hb1
        have hs1' := hb1.size
        clear hb1
        go_wp2_with fail
        refine (alive13_any _).mono ?_
        rintro e w2 ⟨rfl, hb2⟩
        have HB2 := Lib.hid (HB1.out.trans (hb2.mono hs1')); clear hb2
        have k1 := run_str (w := w2) (B := 0) (v := .slice none 0 0) (l := []) ⟨none, 0, rfl, by simp, by omega, fun _ => rfl, fun h => by simp at h⟩
        go_wp2
        go_ret
        exact ⟨rfl, HB2.out⟩
  case false =>
    rw [hB] at hsh
    have HSH := Lib.hid hsh; clear hsh hB
    go_enter Try.func3, Try.ntmps3
    go_wp2_with fail
    refine (HSH.out _).mono ?_
    rintro e w1 ⟨rfl, rfl⟩
    go_wp2_with fail
    refine (alive13_any _).mono ?_
    rintro e w2 ⟨rfl, hb2⟩
    have HB2 := Lib.hid hb2; clear hb2
    go_wp2
    go_ret
    exact ⟨rfl, HB2.out⟩
set_option maxRecDepth 100000 in
theorem counterStreams_lifted (os : Os) (started : os.Started) (H : Type) (enc : TypeId × Value → H) :
    ReturnsInHanded {} Try.checked os 3 .any (Rows.counterStreamsSpec.pre6 enc Try.prog Try.f3 Rows.counterStreamsRow.domain false) (Rows.counterStreamsSpec.post enc Try.prog Try.f3 false true false false) := by
  refine returnsInHanded_of_change_sized (C := Try.checked) own12 started (by kernel_rfl) Try.func3
    (ChangeSpec.witness6 (enc := enc) (C := Try.checked) false ⟨#[], #[.slice none 0 0, .slice none 0 0], []⟩ 20 (by kernel_rfl) (by kernel_rfl) (by kernel_rfl) (by kernel_rfl)) ?_
  intro W base args ds gs before hval0 hW hcnd hsz _
  have hval : ∀ (j : Nat) t v, Try.f3.params[j]? = some t → args[j]? = some v → Value.okWide Try.prog W .any base t v := hval0
  have hW' := hW
  have hlt := hW.lt
  obtain ⟨p, q, hA0, hV, rfl, hfz, hnd⟩ := hW
  have hA : DataW.TrodAll enc Try.prog W 0 (fun _ => true) true Try.f3.params.toList args.toList ds p := hA0
  rw [Try.params3] at hA hval
  obtain ⟨v0, vs0, d0, ds0, p0, q0, hargs, rfl, rfl, h0, r0⟩ := trodAll_cons hA
  obtain ⟨v1, vs1, d1, ds1, p1, q1, rfl, rfl, rfl, h1, r1⟩ := trodAll_cons r0
  obtain ⟨rfl, rfl, rfl⟩ := trodAll_nil r1
  obtain rfl : args = #[v0, v1] := by cases args; simp_all
  obtain ⟨rfl, rfl⟩ := trodVars_none hV
  obtain ⟨a0, ha0, hl0⟩ := open_bytes Try.underlying22 Try.underlying5 (by kernel_rfl) (hval 0 22 v0 rfl rfl) h0 (fun x hx => hlt x (by simp [hx]))
    (fun es sp h => by have := sized_slice (P := Try.prog) hsz (j := 0) (t := 22) rfl (by rw [h]; rfl) Try.underlying22; rw [show Try.prog.bytesOf 5 = 1 by kernel_rfl] at this; unfold reachBytes at this; omega)
  obtain ⟨a1, ha1, hl1⟩ := open_bytes Try.underlying22 Try.underlying5 (by kernel_rfl) (hval 1 22 v1 rfl rfl) h1 (fun x hx => hlt x (by simp [hx]))
    (fun es sp h => by have := sized_slice (P := Try.prog) hsz (j := 1) (t := 22) rfl (by rw [h]; rfl) Try.underlying22; rw [show Try.prog.bytesOf 5 = 1 by kernel_rfl] at this; unfold reachBytes at this; omega)
  exact (counterStreams_walk W v0 a0 ha0 hl0 v1 a1 ha1 hl1).mono fun e W' ⟨he, hb⟩ => ⟨_, he, law_post (by kernel_rfl) rfl rfl rfl rfl hW' hb⟩
theorem counterStreams_over : Rows.counterStreamsRow.holds Try.pinned (OpenSpec.ofChange Rows.counterStreamsSpec) :=
  OpenClaim.holds_of_wide 3 Try.f3 rfl rfl rfl rfl rfl rfl rfl ⟨rfl, rfl, rfl, rfl, rfl⟩ rfl rfl rfl rfl rfl (by kernel_rfl) Try.func3 (by kernel_rfl)
    (of_decide_eq_true (by kernel_rfl)) (by unfold Func.isWrapper; first | (rw [if_pos (by decide +kernel)]; kernel_rfl) | (rw [if_neg (by decide +kernel)]; exact ⟨rfl, rfl⟩))
    (fun os started H enc _ => counterStreams_lifted os started H enc)
end Go.Proofs.Ytnbjpilanjngmaa.XS
namespace Go.Proofs.Ytnbjpilanjngmaa
theorem counterStreams_holds : Rows.CounterStreamsSaid := XS.counterStreams_over
end Go.Proofs.Ytnbjpilanjngmaa
