/- Any block is encrypted by any key that may be as the document says; other keys are refused: the law CipherBlocks returns true for every key and every block. -/
import Derived.Test.YtkdebhdfbpbcoaaLaw12a
import Derived.Test.YtkdebhdfbpbcoaaRow
import Derived.Test.YtkdebhdfbpbcoaaRef12C
import Derived.Test.YtkdebhdfbpbcoaaRef12D
namespace Go.Proofs.Ytkdebhdfbpbcoaa.XS
open Go Go.RowKit Go.ChangeShapes Go.WideShapes Go.ChangeAt
set_option linter.unusedVariables false

theorem rb12 (f g : Nat → UInt8) (w : World) : (Op.equalIn 10000 27 (.agg (bytesV (mk 16 f))) (.agg (bytesV (mk 16 g)))).run Try.prog w = .ok (eqA 16 f g) w := run_equal_arr (E := 5) (k := .u8) (by kernel_rfl) (by kernel_rfl) (by kernel_rfl) f g
theorem eb12 : Try.prog.eqGuardType Try.prog.depth 27 = false := by kernel_rfl
attribute [local go_sem] rb12 eb12
theorem enc_same (n : Nat) (key b : Nat → UInt8) : eqA 16 (enc (keyZ n key) b (n + 6)) (enc (keyS n key) b (n + 6)) = true := by
  rw [eqA_true]
  exact fun i hi => enc_congr (fun p hp => by unfold keyZ; rw [if_pos (by omega)]) i hi

set_option maxHeartbeats 2000000 in
set_option maxRecDepth 100000 in
theorem cipherBlocks_walk (w : World) (v : Value) (l : List UInt8) (hv : RdB w w.heap.size v l) (_ : l.length ≤ 140737488351232) (b : Nat → UInt8) :
    Calls Try.prog 4 #[v, .agg (bytesV (mk 16 b))] w fun e w' => e = .returned (.bool true) ∧ Below w.heap.size w w' := by
  have HV := Lib.hid hv; clear hv
  have HBase := Lib.hid ((Below.refl w.heap.size w).alloc (Nat.le_refl _) (Obj.cells (bytesV (mk 16 b)) 27))
  by_cases hk : l.length = 16 ∨ l.length = 24 ∨ l.length = 32
  · obtain ⟨n, hn, hl⟩ : ∃ n, (n = 4 ∨ n = 6 ∨ n = 8) ∧ l.length = 4 * n := by
      rcases hk with h | h | h
      · exact ⟨4, .inl rfl, h⟩
      · exact ⟨6, .inr (.inl rfl), h⟩
      · exact ⟨8, .inr (.inr rfl), h⟩
    have HN := Lib.hid hn; clear hn
    have HL := Lib.hid hl; clear hl hk
    go_enter Try.func4, Try.ntmps4
    go_wp2_with fail
    refine (new_ok _ _ l n ((HV.out.below HBase.out (Nat.le_refl _)).mono HBase.out.size) HL.out HN.out).mono ?_
    rintro e w1 ⟨kb, hkb, rfl, hkey, hb1⟩
    have h4 := (Blk.new w (bytesV (mk 16 b)) 27).below hb1 (by simp)
    have HB1 := Lib.hid (HBase.out.trans (hb1.mono HBase.out.size))
    have HK := Lib.hid hkey; clear hkey
    have hkl := HK.out.lt
    have hs1 := hb1.size
    simp at hs1
    clear hb1
    go_wp2_with fail
    refine (boxes12_any _).mono ?_
    rintro e w2 ⟨vb, rfl, hbx, hb2⟩
    have HB2 := Lib.hid (HB1.out.trans (hb2.mono HB1.out.size))
    have HBX := Lib.hid hbx; clear hbx
    have HK2 := Lib.hid (HK.out.below hb2 hkl)
    have H42 := Lib.hid (h4.below hb2 h4.lt)
    have hs2 := hb2.size
    clear hb2 h4
    go_wp2_with fail
    refine (rounds12_ok _ _ _ l n ((HV.out.below HB2.out (Nat.le_refl _)).mono HB2.out.size) HBX.out HL.out HN.out).mono ?_
    rintro e w3 ⟨vr, rfl, hrd, hb3⟩
    have HB3 := Lib.hid (HB2.out.trans (hb3.mono HB2.out.size))
    have HBX3 := Lib.hid ((HBX.out.below hb3 (Nat.le_refl _)).mono hb3.size)
    have HK3 := Lib.hid (HK2.out.below hb3 (by omega))
    have H43 := Lib.hid (H42.out.below hb3 H42.out.lt)
    have HRD := Lib.hid hrd
    have hs3 := hb3.size
    clear hb3 hrd
    go_wp2
    have hne : w.heap.size < w1.heap.size := by omega
    have henc := enc_same n (fun i => l[i]?.getD 0) b
    refine wp_region_cls 15 (fun w' => Below w3.heap.size w3 w') (by kernel_rfl) (by kernel_rfl) (by kernel_rfl) (by rfl) (Below.refl _ _).drew ?_
    simp only [List.take_succ_cons, List.take_zero]
    refine quiet_call rfl 9 #[] (fun w' => by kernel_rfl) (.bool true) (fun w' hC => (alive12_any w').mono fun e w2 h => ⟨h.1, hC.trans (h.2.mono hC.size)⟩) ?_
    refine quiet_segN 6 (by kernel_rfl) (by kernel_rfl) (by rfl) ⟨_, Below.refl _ _⟩ ?_
    apply Exists.intro
    refine ⟨fun w' hC K hK => ?seg, ?next⟩
    case seg =>
      have H4' := Lib.hid (H43.out.below hC (by omega))
      have HC := Lib.hid hC; clear hC
      simp only [List.take_succ_cons, List.take_zero]
      go_wp2_with (refine wpList_loadR rfl _ _ rfl w.heap.size _ rfl _ H4'.out (by kernel_rfl) 16 (by kernel_rfl) (by rw [bytesV_size, mk_length]) ?_)
      exact hK _ _ ⟨by rfl, rfl⟩
    case next =>
      simp only [List.drop_succ_cons, List.drop_zero]
      refine quiet_callG rfl 17 #[.pointer (some ⟨kb, 0, none⟩), .agg (bytesV (mk 16 b))] (fun w' => by kernel_rfl) (.agg (bytesV (mk 16 (enc (keyZ n fun i => l[i]?.getD 0) b (n + 6)))))
        (fun w' hC => (block_any w' kb _ b (n + 6) (by omega) (by have := HN.out; omega) (HK3.out.below hC (by have := HK3.out.lt; omega))).mono fun e w2 h => ⟨h.1, hC.trans (h.2.mono hC.size)⟩) ?_
      refine quiet_segN 3 (by kernel_rfl) (by kernel_rfl) (by rfl) ⟨_, Below.refl _ _⟩ ?_
      apply Exists.intro
      refine ⟨fun w' hC K hK => ?seg2, ?next2⟩
      case seg2 =>
        have H4' := Lib.hid (H43.out.below hC (by omega))
        have HC := Lib.hid hC; clear hC
        simp only [List.take_succ_cons, List.take_zero]
        go_wp2_with (refine wpList_loadR rfl _ _ rfl w.heap.size _ rfl _ H4'.out (by kernel_rfl) 16 (by kernel_rfl) (by rw [bytesV_size, mk_length]) ?_)
        exact hK _ _ ⟨by rfl, rfl⟩
      case next2 =>
        simp only [List.drop_succ_cons, List.drop_zero]
        refine quiet_callG rfl 18 #[vr, vb, .agg (bytesV (mk 16 b))] (fun w' => by kernel_rfl) (.agg (bytesV (mk 16 (enc (keyS n fun i => l[i]?.getD 0) b (n + 6)))))
          (fun w' hC => (block12_any w' w2.heap.size vr vb (n + 6) (by have := HN.out; omega) _ b (HRD.out.below hC (Nat.le_refl _)) ((HBX3.out.below hC (Nat.le_refl _)).mono hC.size)).mono fun e w2 h => ⟨h.1, hC.trans (h.2.mono hC.size)⟩) ?_
        refine quiet_segN 3 (by kernel_rfl) (by kernel_rfl) (by rfl) ⟨_, Below.refl _ _⟩ ?_
        apply Exists.intro
        refine ⟨fun w' hC K hK => ?seg3, ?next3⟩
        case seg3 =>
          clear hC
          simp only [List.take_succ_cons, List.take_zero]
          go_wp2
          exact hK _ _ ⟨by rfl, rfl⟩
        case next3 =>
          simp only [List.drop_succ_cons, List.drop_zero]
          refine wpQuiet_nil ?_
          intro w' hC
          have HC := Lib.hid hC; clear hC
          go_wp2
          go_ret
          exact ⟨rfl, HB3.out.trans (HC.out.mono HB3.out.size)⟩
  · have h16 : l.length ≠ 16 := fun h => hk (.inl h)
    have h24 : l.length ≠ 24 := fun h => hk (.inr (.inl h))
    have h32 : l.length ≠ 32 := fun h => hk (.inr (.inr h))
    have HN := Lib.hid (And.intro h16 (And.intro h24 h32))
    clear h16 h24 h32 hk
    go_enter Try.func4, Try.ntmps4
    go_wp2_with fail
    refine (new_bad _ _ l ((HV.out.below HBase.out (Nat.le_refl _)).mono HBase.out.size) HN.out.1 HN.out.2.1 HN.out.2.2).mono ?_
    rintro e w1 ⟨rfl, rfl⟩
    go_wp2_with fail
    refine (boxes12_any _).mono ?_
    rintro e w2 ⟨vb, rfl, hbx, hb2⟩
    have HB2 := Lib.hid (HBase.out.trans (hb2.mono HBase.out.size)); clear hb2 hbx
    go_wp2_with fail
    refine (rounds12_bad _ _ _ l ((HV.out.below HB2.out (Nat.le_refl _)).mono HB2.out.size) HN.out.1 HN.out.2.1 HN.out.2.2).mono ?_
    rintro e w3 ⟨rfl, rfl⟩
    have hs2 := HB2.out.size
    go_wp2
    refine wp_region_cls 15 (fun w' => Below w2.heap.size w2 w') (by kernel_rfl) (by kernel_rfl) (by kernel_rfl) (by rfl) (Below.refl _ _).drew ?_
    simp only [List.take_succ_cons, List.take_zero]
    refine quiet_call rfl 9 #[] (fun w' => by kernel_rfl) (.bool true) (fun w' hC => (alive12_any w').mono fun e w2 h => ⟨h.1, hC.trans (h.2.mono hC.size)⟩) ?_
    refine quiet_segN 6 (by kernel_rfl) (by kernel_rfl) (by rfl) ⟨_, Below.refl _ _⟩ ?_
    apply Exists.intro
    refine ⟨fun w' hC K hK => ?seg, ?next⟩
    case seg =>
      clear hC
      simp only [List.take_succ_cons, List.take_zero]
      go_wp2
      exact hK _ _ ⟨by rfl, rfl⟩
    case next =>
      simp only [List.drop_succ_cons, List.drop_zero]
      refine quiet_skip rfl ?_
      refine quiet_segN 3 (by kernel_rfl) (by kernel_rfl) (by rfl) ⟨_, Below.refl _ _⟩ ?_
      apply Exists.intro
      refine ⟨fun w' hC K hK => ?seg2, ?next2⟩
      case seg2 =>
        clear hC
        simp only [List.take_succ_cons, List.take_zero]
        go_wp2
        exact hK _ _ ⟨by rfl, rfl⟩
      case next2 =>
        simp only [List.drop_succ_cons, List.drop_zero]
        refine quiet_skip rfl ?_
        refine quiet_segN 3 (by kernel_rfl) (by kernel_rfl) (by rfl) ⟨_, Below.refl _ _⟩ ?_
        apply Exists.intro
        refine ⟨fun w' hC K hK => ?seg3, ?next3⟩
        case seg3 =>
          clear hC
          simp only [List.take_succ_cons, List.take_zero]
          go_wp2
          exact hK _ _ ⟨by rfl, rfl⟩
        case next3 =>
          simp only [List.drop_succ_cons, List.drop_zero]
          refine wpQuiet_nil ?_
          intro w' hC
          have HC := Lib.hid hC; clear hC
          go_wp2
          go_ret
          exact ⟨rfl, HB2.out.trans (HC.out.mono HB2.out.size)⟩
set_option maxRecDepth 100000 in
theorem cipherBlocks_lifted (os : Os) (started : os.Started) (H : Type) (enc : TypeId × Value → H) :
    ReturnsInHanded {} Try.checked os 4 .any (Rows.cipherBlocksSpec.pre6 enc Try.prog Try.f4 Rows.cipherBlocksRow.domain false) (Rows.cipherBlocksSpec.post enc Try.prog Try.f4 false true false false) := by
  refine returnsInHanded_of_change_sized (C := Try.checked) own12 started (by kernel_rfl) Try.func4
    (ChangeSpec.witness6 (enc := enc) (C := Try.checked) false ⟨#[], #[.slice none 0 0, .agg (.replicate 16 (.int .u8 0))], []⟩ 20 (by kernel_rfl) (by kernel_rfl) (by kernel_rfl) (by kernel_rfl)) ?_
  intro W base args ds gs before hval0 hW hcnd hsz _
  have hval : ∀ (j : Nat) t v, Try.f4.params[j]? = some t → args[j]? = some v → Value.okWide Try.prog W .any base t v := hval0
  have hW' := hW
  have hlt := hW.lt
  obtain ⟨p, q, hA0, hV, rfl, hfz, hnd⟩ := hW
  have hA : DataW.TrodAll enc Try.prog W 0 (fun _ => true) true Try.f4.params.toList args.toList ds p := hA0
  rw [Try.params4] at hA hval
  obtain ⟨v0, vs0, d0, ds0, p0, q0, hargs, rfl, rfl, h0, r0⟩ := trodAll_cons hA
  obtain ⟨v1, vs1, d1, ds1, p1, q1, rfl, rfl, rfl, h1, r1⟩ := trodAll_cons r0
  obtain ⟨rfl, rfl, rfl⟩ := trodAll_nil r1
  obtain rfl : args = #[v0, v1] := by cases args; simp_all
  obtain ⟨rfl, rfl⟩ := trodVars_none hV
  obtain ⟨a0, ha0, hl0⟩ := open_bytes Try.underlying26 Try.underlying5 (by kernel_rfl) (hval 0 26 v0 rfl rfl) h0 (fun x hx => hlt x (by simp [hx]))
    (fun es sp h => by have := sized_slice (P := Try.prog) hsz (j := 0) (t := 26) rfl (by rw [h]; rfl) Try.underlying26; rw [show Try.prog.bytesOf 5 = 1 by kernel_rfl] at this; unfold reachBytes at this; omega)
  obtain ⟨a1, rfl⟩ := open_arr Try.underlying27 Try.underlying5 (by kernel_rfl) (by kernel_rfl) (hval 1 27 v1 rfl rfl) h1
  exact (cipherBlocks_walk W v0 a0 ha0 hl0 a1).mono fun e W' ⟨he, hb⟩ => ⟨_, he, law_post (by kernel_rfl) rfl rfl rfl rfl hW' hb⟩
theorem cipherBlocks_over : Rows.cipherBlocksRow.holds Try.pinned (OpenSpec.ofChange Rows.cipherBlocksSpec) :=
  OpenClaim.holds_of_wide 4 Try.f4 rfl rfl rfl rfl rfl rfl rfl ⟨rfl, rfl, rfl, rfl, rfl⟩ rfl rfl rfl rfl rfl (by kernel_rfl) Try.func4 (by kernel_rfl)
    (of_decide_eq_true (by kernel_rfl)) (by unfold Func.isWrapper; first | (rw [if_pos (by decide +kernel)]; kernel_rfl) | (rw [if_neg (by decide +kernel)]; exact ⟨rfl, rfl⟩))
    (fun os started H enc _ => cipherBlocks_lifted os started H enc)
end Go.Proofs.Ytkdebhdfbpbcoaa.XS
namespace Go.Proofs.Ytkdebhdfbpbcoaa
theorem cipherBlocks_holds : Rows.CipherBlocksSaid := XS.cipherBlocks_over
end Go.Proofs.Ytkdebhdfbpbcoaa
