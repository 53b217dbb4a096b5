/- Encrypted twice data is as it was: the law CounterTwice returns true for every key and all data. -/
import Derived.Test.YtnbjpilanjngmaaLaw13a
import Derived.Test.YtnbjpilanjngmaaRow
namespace Go.Proofs.Ytnbjpilanjngmaa.XS
open Go Go.RowKit Go.ChangeShapes Go.WideShapes Go.ChangeAt
set_option linter.unusedVariables false

theorem keyN {l : List UInt8} (hk : l.length = 16 ∨ l.length = 24 ∨ l.length = 32) : ∃ n, (n = 4 ∨ n = 6 ∨ n = 8) ∧ l.length = 4 * n := by
  rcases hk with h | h | h
  · exact ⟨4, .inl rfl, h⟩
  · exact ⟨6, .inr (.inl rfl), h⟩
  · exact ⟨8, .inr (.inr rfl), h⟩

set_option maxHeartbeats 2000000 in
set_option maxRecDepth 100000 in
theorem counterTwice_walk (w : World) (vk : Value) (key : List UInt8) (hk : RdB w w.heap.size vk key) (_ : key.length ≤ 140737488351232) (vd : Value) (data : List UInt8) (hd : RdB w w.heap.size vd data) (hld : data.length ≤ 140737488351232) :
    Calls Try.prog 7 #[vk, vd] w fun e w' => e = .returned (.bool true) ∧ Below w.heap.size w w' := by
  have HK := Lib.hid hk; clear hk
  by_cases hkl : key.length = 16 ∨ key.length = 24 ∨ key.length = 32
  · obtain ⟨n, hn, hl⟩ := keyN hkl
    have HN := Lib.hid hn; clear hn
    have HL := Lib.hid hl; clear hl hkl
    have HD := Lib.hid hd
    obtain ⟨bd, cd, rfl, hd1, hd2, _, _⟩ := hd
    go_enter Try.func7, Try.ntmps7
    go_wp2_with fail
    refine (stream_ok _ _ _ key data n w.heap.size (Nat.le_refl _) HK.out HD.out HL.out HN.out (by omega)).mono ?_
    rintro e w1 ⟨ob, hob1, rfl, hob, hb1⟩
    have HB1 := Lib.hid hb1
    have hs1 := hb1.size
    have hrx := RdB.ofBlk hob (by rw [mk_length]; omega)
    rw [mk_length] at hrx
    have HRX := Lib.hid hrx
    clear hb1 hob hrx
    go_wp2_with fail
    refine (stream_ok _ _ _ key (mk data.length (strm n key data)) n w1.heap.size (Nat.le_refl _) ((HK.out.below HB1.out (Nat.le_refl _)).mono hs1) HRX.out HL.out HN.out (by rw [mk_length]; omega)).mono ?_
    rintro e w2 ⟨ob2, hob2, rfl, hob2', hb2⟩
    have HB2 := Lib.hid (HB1.out.trans (hb2.mono hs1))
    rw [strm_twice] at hob2'
    rw [mk_length]
    have HOB2 := Lib.hid hob2'
    have hs2 := hb2.size
    clear hb2 hob2'
    go_wp2_with fail
    refine (alive13_any _).mono ?_
    rintro e w3 ⟨rfl, hb3⟩
    have HB3 := Lib.hid (HB2.out.trans (hb3.mono (by omega)))
    have hx := RdB.ofBlk (HOB2.out.below hb3 HOB2.out.lt) (by omega)
    have k1 := run_str hx
    have k2 := run_str (HD.out.below HB3.out (Nat.le_refl _))
    clear hb3 hx
    go_wp2
    go_ret
    exact ⟨rfl, HB3.out⟩
  · have h16 : key.length ≠ 16 := fun h => hkl (.inl h)
    have h24 : key.length ≠ 24 := fun h => hkl (.inr (.inl h))
    have h32 : key.length ≠ 32 := fun h => hkl (.inr (.inr h))
    have HN := Lib.hid (And.intro h16 (And.intro h24 h32))
    clear h16 h24 h32 hkl
    go_enter Try.func7, Try.ntmps7
    go_wp2_with fail
    refine (stream_bad _ _ _ key w.heap.size (Nat.le_refl _) HK.out HN.out.1 HN.out.2.1 HN.out.2.2).mono ?_
    rintro e w1 ⟨rfl, rfl⟩
    go_wp2_with fail
    refine (stream_bad _ _ _ key w.heap.size (Nat.le_refl _) HK.out HN.out.1 HN.out.2.1 HN.out.2.2).mono ?_
    rintro e w1 ⟨rfl, rfl⟩
    go_wp2_with fail
    refine (alive13_any _).mono ?_
    rintro e w2 ⟨rfl, hb2⟩
    have HB2 := Lib.hid hb2; clear hb2
    go_wp2
    go_ret
    exact ⟨rfl, HB2.out⟩
set_option maxRecDepth 100000 in
theorem counterTwice_lifted (os : Os) (started : os.Started) (H : Type) (enc : TypeId × Value → H) :
    ReturnsInHanded {} Try.checked os 7 .any (Rows.counterTwiceSpec.pre6 enc Try.prog Try.f7 Rows.counterTwiceRow.domain false) (Rows.counterTwiceSpec.post enc Try.prog Try.f7 false true false false) := by
  refine returnsInHanded_of_change_sized (C := Try.checked) own12 started (by kernel_rfl) Try.func7
    (ChangeSpec.witness6 (enc := enc) (C := Try.checked) false ⟨#[], #[.slice none 0 0, .slice none 0 0], []⟩ 20 (by kernel_rfl) (by kernel_rfl) (by kernel_rfl) (by kernel_rfl)) ?_
  intro W base args ds gs before hval0 hW hcnd hsz _
  have hval : ∀ (j : Nat) t v, Try.f7.params[j]? = some t → args[j]? = some v → Value.okWide Try.prog W .any base t v := hval0
  have hW' := hW
  have hlt := hW.lt
  obtain ⟨p, q, hA0, hV, rfl, hfz, hnd⟩ := hW
  have hA : DataW.TrodAll enc Try.prog W 0 (fun _ => true) true Try.f7.params.toList args.toList ds p := hA0
  rw [Try.params7] at hA hval
  obtain ⟨v0, vs0, d0, ds0, p0, q0, hargs, rfl, rfl, h0, r0⟩ := trodAll_cons hA
  obtain ⟨v1, vs1, d1, ds1, p1, q1, rfl, rfl, rfl, h1, r1⟩ := trodAll_cons r0
  obtain ⟨rfl, rfl, rfl⟩ := trodAll_nil r1
  obtain rfl : args = #[v0, v1] := by cases args; simp_all
  obtain ⟨rfl, rfl⟩ := trodVars_none hV
  obtain ⟨a0, ha0, hl0⟩ := open_bytes Try.underlying22 Try.underlying5 (by kernel_rfl) (hval 0 22 v0 rfl rfl) h0 (fun x hx => hlt x (by simp [hx]))
    (fun es sp h => by have := sized_slice (P := Try.prog) hsz (j := 0) (t := 22) rfl (by rw [h]; rfl) Try.underlying22; rw [show Try.prog.bytesOf 5 = 1 by kernel_rfl] at this; unfold reachBytes at this; omega)
  obtain ⟨a1, ha1, hl1⟩ := open_bytes Try.underlying22 Try.underlying5 (by kernel_rfl) (hval 1 22 v1 rfl rfl) h1 (fun x hx => hlt x (by simp [hx]))
    (fun es sp h => by have := sized_slice (P := Try.prog) hsz (j := 1) (t := 22) rfl (by rw [h]; rfl) Try.underlying22; rw [show Try.prog.bytesOf 5 = 1 by kernel_rfl] at this; unfold reachBytes at this; omega)
  exact (counterTwice_walk W v0 a0 ha0 hl0 v1 a1 ha1 hl1).mono fun e W' ⟨he, hb⟩ => ⟨_, he, law_post (by kernel_rfl) rfl rfl rfl rfl hW' hb⟩
theorem counterTwice_over : Rows.counterTwiceRow.holds Try.pinned (OpenSpec.ofChange Rows.counterTwiceSpec) :=
  OpenClaim.holds_of_wide 7 Try.f7 rfl rfl rfl rfl rfl rfl rfl ⟨rfl, rfl, rfl, rfl, rfl⟩ rfl rfl rfl rfl rfl (by kernel_rfl) Try.func7 (by kernel_rfl)
    (of_decide_eq_true (by kernel_rfl)) (by unfold Func.isWrapper; first | (rw [if_pos (by decide +kernel)]; kernel_rfl) | (rw [if_neg (by decide +kernel)]; exact ⟨rfl, rfl⟩))
    (fun os started H enc _ => counterTwice_lifted os started H enc)
end Go.Proofs.Ytnbjpilanjngmaa.XS
namespace Go.Proofs.Ytnbjpilanjngmaa
theorem counterTwice_holds : Rows.CounterTwiceSaid := XS.counterTwice_over
end Go.Proofs.Ytnbjpilanjngmaa
