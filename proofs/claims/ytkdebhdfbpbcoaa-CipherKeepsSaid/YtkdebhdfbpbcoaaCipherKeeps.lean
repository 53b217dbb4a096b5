/- The key is copied, to write into it changes nothing: the law CipherKeeps returns true for every key and every block. -/
import Derived.Test.YtkdebhdfbpbcoaaLaw12a
import Derived.Test.YtkdebhdfbpbcoaaRow
namespace Go.Proofs.Ytkdebhdfbpbcoaa.XS
open Go Go.RowKit Go.ChangeShapes Go.WideShapes Go.ChangeAt
set_option linter.unusedVariables false

theorem rk12 (f g : Nat → UInt8) (w : World) : (Op.equalIn 10000 27 (.agg (bytesV (mk 16 f))) (.agg (bytesV (mk 16 g)))).run Try.prog w = .ok (eqA 16 f g) w := run_equal_arr (E := 5) (k := .u8) (by kernel_rfl) (by kernel_rfl) (by kernel_rfl) f g
theorem gk12 : Try.prog.eqGuardType Try.prog.depth 27 = false := by kernel_rfl
attribute [local go_sem] rk12 gk12
theorem eqA_refl (n : Nat) (f : Nat → UInt8) : eqA n f f = true := eqA_true.2 fun _ _ => rfl

set_option maxHeartbeats 4000000 in
set_option maxRecDepth 100000 in
theorem cipherKeeps_walk (w : World) (v : Value) (l : List UInt8) (hv : RdB w w.heap.size v l) (h47 : l.length ≤ 140737488351232) (b : Nat → UInt8) :
    Calls Try.prog 8 #[v, .agg (bytesV (mk 16 b))] w fun e w' => e = .returned (.bool true) ∧ Below w.heap.size w w' := by
  have HV := Lib.hid hv; clear hv
  have HA := Lib.hid (((Below.refl w.heap.size w).alloc (Nat.le_refl _) (Obj.cells (bytesV (mk 16 b)) 27)).alloc (by simp) (Obj.cells #[] 5))
  have HV' := Lib.hid (HV.out.below HA.out (Nat.le_refl _))
  have ho0 := OwnB.lit (w.alloc (Obj.cells (bytesV (mk 16 b)) 27)) (w.heap.size + 1) 5 (by simp)
  rw [show (w.alloc (Obj.cells (bytesV (mk 16 b)) 27)).heap.size = w.heap.size + 1 by simp] at ho0
  have HO0 := Lib.hid ho0; clear ho0
  have H47 : Hid (([] : List UInt8).length + l.length ≤ 140737488355328) := by show _ ≤ _; rw [List.length_nil]; omega
  have HS : Hid (w.heap.size + 1 ≤ ((w.alloc (Obj.cells (bytesV (mk 16 b)) 27)).alloc (Obj.cells #[] 5)).heap.size) := by show _ ≤ _; simp
  go_enter Try.func8, Try.ntmps8
  go_upto_region 2 with (
    refine wpList_appendR rfl _ _ _ rfl (w.heap.size + 1) 5 (by kernel_rfl) (by kernel_rfl) _ _ rfl HO0.out _ _ rfl l HV'.out H47.out HS.out ?_; intro v' w1 ho1 hg1)
  have HB1 := Lib.hid (grown_below hg1 HA.out (by simp; omega) (fun k hk => by have := (HO0.out.block k hk).1; omega))
  have H3 := Lib.hid (grown_blk hg1 ((Blk.new w (bytesV (mk 16 b)) 27).alloc _) (fun e => by have := (HO0.out.block _ e).1; omega))
  rw [List.nil_append] at ho1
  have HO := Lib.hid ho1; clear ho1 hg1
  have HV1 := Lib.hid (HV.out.below HB1.out (Nat.le_refl _))
  have hs1 := HB1.out.size
  clear HV' HO0
  by_cases hk : l.length = 16 ∨ l.length = 24 ∨ l.length = 32
  · obtain ⟨n, hn, hl⟩ : ∃ n, (n = 4 ∨ n = 6 ∨ n = 8) ∧ l.length = 4 * n := by
      rcases hk with h | h | h
      · exact ⟨4, .inl rfl, h⟩
      · exact ⟨6, .inr (.inl rfl), h⟩
      · exact ⟨8, .inr (.inr rfl), h⟩
    have HN := Lib.hid hn; clear hn
    have HL := Lib.hid hl; clear hl hk
    obtain ⟨g, cap, hv', hg1, hg2, hcap, hcapm⟩ := HO.out.form (by have := HN.out; have := HL.out; omega)
    subst hv'
    go_wp2_with fail
    refine (new_ok _ _ l n HO.out.rd HL.out HN.out).mono ?_
    rintro e w2 ⟨kb, hkb, rfl, hkey, hb2⟩
    have HB2 := Lib.hid (HB1.out.trans (hb2.mono hs1))
    have HO2 := Lib.hid (HO.out.below hb2 (Nat.le_refl _))
    have H32 := Lib.hid (H3.out.below hb2 (by have := H3.out.lt; omega))
    have hs2 := hb2.size
    have HK := Lib.hid hkey; clear hkey hb2
    have hkl := HK.out.lt
    go_wp2_with fail
    refine (new_ok _ _ l n ((HV.out.below HB2.out (Nat.le_refl _)).mono (by omega)) HL.out HN.out).mono ?_
    rintro e w3 ⟨kc, hkc, rfl, hkey2, hb3⟩
    have HB3 := Lib.hid (HB2.out.trans (hb3.mono (by omega)))
    have HO3 := Lib.hid (HO2.out.below hb3 (Nat.le_refl _))
    have H33 := Lib.hid (H32.out.below hb3 (by have := H32.out.lt; omega))
    have HK3 := Lib.hid (HK.out.below hb3 hkl)
    have hs3 := hb3.size
    have HC3 := Lib.hid hkey2; clear hkey2 hb3
    have hcl := HC3.out.lt
    clear HO HO2 H3 H32 HK HV HV1 HA HB1 HB2
    go_wp2
    go_loopw [38] (fun vi wr => ∃ (i : Nat) (l' : List UInt8), i ≤ l.length ∧ vi = .int .i64 i ∧ l'.length = l.length ∧ OwnB wr (w.heap.size + 1) 5 (.slice (some ⟨g, 0, none⟩) l'.length cap) l' ∧ Below w.heap.size w wr ∧ wr.heap.size = w3.heap.size ∧
      Blk wr w.heap.size (bytesV (mk 16 b)) 27 ∧ Blk wr kb (keyV (keyZ n fun i => l[i]?.getD 0) (n + 6)) 49 ∧ Blk wr kc (keyV (keyZ n fun i => l[i]?.getD 0) (n + 6)) 49) (fun i _ => l.length - (intOf i).toNat)
    case atStart => exact ⟨0, l, by omega, rfl, rfl, HO3.out, HB3.out, rfl, H33.out, HK3.out, HC3.out⟩
    case round =>
      obtain ⟨i, l', hi, rfl, hl', ho, hb, hsz, h3, hk, hc⟩ := hrel
      clear HB3 HO3 H33 HK3 HC3
      have HB := Lib.hid hb; clear hb
      have HO := Lib.hid ho; clear ho
      have H3 := Lib.hid h3; clear h3
      have HK := Lib.hid hk; clear hk
      have HC := Lib.hid hc; clear hc
      have HL' := Lib.hid hl'; clear hl'
      have HSZ := Lib.hid hsz; clear hsz
      by_cases hlt : i < l.length
      · have c1 := HO.out.cell (j := i) (by have := HL'.out; omega)
        have f1 := HO.out.free i
        go_wp2
        go_roundw
        case rel =>
          refine ⟨i + 1, l'.set i ((255 : UInt8) ^^^ l'[i]?.getD 0), by omega, by go_num, by rw [List.length_set]; exact HL'.out, ?_, HB.out.setCell (by show w.heap.size ≤ g; omega) _, by simp [World.setCell, HSZ.out],
            H3.out.set_ne (by omega) _ _ _, HK.out.set_ne (by omega) _ _ _, HC.out.set_ne (by omega) _ _ _⟩
          have h := HO.out.stored i ((255 : UInt8) ^^^ l'[i]?.getD 0)
          rw [← bits_xor_u8] at h
          rw [List.length_set]
          exact h
        case measure => simp [intOf]; omega
      · obtain rfl : i = l.length := by omega
        have hs := HSZ.out
        go_wp2
        refine wp_region_cls 15 (fun w' => Below wr.heap.size wr w') (by kernel_rfl) (by kernel_rfl) (by kernel_rfl) (by rfl) (Below.refl _ _).drew ?_
        simp only [List.take_succ_cons, List.take_zero]
        refine quiet_call rfl 9 #[] (fun w' => by kernel_rfl) (.bool true) (fun w' hC => (alive12_any w').mono fun e w2 h => ⟨h.1, hC.trans (h.2.mono hC.size)⟩) ?_
        refine quiet_segN 7 (by kernel_rfl) (by kernel_rfl) (by rfl) ⟨_, Below.refl _ _⟩ ?_
        apply Exists.intro
        refine ⟨fun w' hC K hK => ?seg, ?next⟩
        case seg =>
          have H3' := Lib.hid (H3.out.below hC (by omega))
          have HCC := Lib.hid hC; clear hC
          simp only [List.take_succ_cons, List.take_zero]
          go_wp2_with (refine wpList_loadR rfl _ _ rfl w.heap.size _ rfl _ H3'.out (by kernel_rfl) 16 (by kernel_rfl) (by rw [bytesV_size, mk_length]) ?_)
          exact hK _ _ ⟨by rfl, rfl⟩
        case next =>
          simp only [List.drop_succ_cons, List.drop_zero]
          refine quiet_callG rfl 17 #[.pointer (some ⟨kb, 0, none⟩), .agg (bytesV (mk 16 b))] (fun w' => by kernel_rfl) (.agg (bytesV (mk 16 (enc (keyZ n fun i => l[i]?.getD 0) b (n + 6)))))
            (fun w' hC => (block_any w' kb _ b (n + 6) (by omega) (by have := HN.out; omega) (HK.out.below hC (by omega))).mono fun e w2 h => ⟨h.1, hC.trans (h.2.mono hC.size)⟩) ?_
          refine quiet_segN 2 (by kernel_rfl) (by kernel_rfl) (by rfl) ⟨_, Below.refl _ _⟩ ?_
          apply Exists.intro
          refine ⟨fun w' hC K hK => ?seg2, ?next2⟩
          case seg2 =>
            have H3' := Lib.hid (H3.out.below hC (by omega))
            have HCC := Lib.hid hC; clear hC
            simp only [List.take_succ_cons, List.take_zero]
            go_wp2_with (refine wpList_loadR rfl _ _ rfl w.heap.size _ rfl _ H3'.out (by kernel_rfl) 16 (by kernel_rfl) (by rw [bytesV_size, mk_length]) ?_)
            exact hK _ _ ⟨by rfl, rfl⟩
          case next2 =>
            simp only [List.drop_succ_cons, List.drop_zero]
            refine quiet_callG rfl 17 #[.pointer (some ⟨kc, 0, none⟩), .agg (bytesV (mk 16 b))] (fun w' => by kernel_rfl) (.agg (bytesV (mk 16 (enc (keyZ n fun i => l[i]?.getD 0) b (n + 6)))))
              (fun w' hC => (block_any w' kc _ b (n + 6) (by omega) (by have := HN.out; omega) (HC.out.below hC (by omega))).mono fun e w2 h => ⟨h.1, hC.trans (h.2.mono hC.size)⟩) ?_
            refine quiet_segN 3 (by kernel_rfl) (by kernel_rfl) (by rfl) ⟨_, Below.refl _ _⟩ ?_
            apply Exists.intro
            refine ⟨fun w' hC K hK => ?seg3, ?next3⟩
            case seg3 =>
              have hsame := eqA_refl 16 (enc (keyZ n fun i => l[i]?.getD 0) b (n + 6))
              have HCC := Lib.hid hC; clear hC
              simp only [List.take_succ_cons, List.take_zero]
              go_wp2
              exact hK _ _ ⟨by rfl, rfl⟩
            case next3 =>
              simp only [List.drop_succ_cons, List.drop_zero]
              refine wpQuiet_nil ?_
              intro w' hC
              have HCC := Lib.hid hC; clear hC
              go_wp2
              go_ret
              exact ⟨rfl, HB.out.trans (HCC.out.mono (by have := HB.out.size; omega))⟩
  · have h16 : l.length ≠ 16 := fun h => hk (.inl h)
    have h24 : l.length ≠ 24 := fun h => hk (.inr (.inl h))
    have h32 : l.length ≠ 32 := fun h => hk (.inr (.inr h))
    have HN := Lib.hid (And.intro h16 (And.intro h24 h32))
    clear h16 h24 h32 hk
    go_wp2_with fail
    refine (new_bad _ _ l HO.out.rd HN.out.1 HN.out.2.1 HN.out.2.2).mono ?_
    rintro e w2 ⟨rfl, rfl⟩
    go_wp2_with fail
    refine (new_bad _ _ l (HV1.out.mono hs1) HN.out.1 HN.out.2.1 HN.out.2.2).mono ?_
    rintro e w2 ⟨rfl, rfl⟩
    go_wp2_with fail
    refine (alive12_any _).mono ?_
    rintro e w2 ⟨rfl, hb2⟩
    have HB2 := Lib.hid (HB1.out.trans (hb2.mono hs1)); clear hb2
    go_wp2
    go_ret
    exact ⟨rfl, HB2.out⟩

set_option maxRecDepth 100000 in
theorem cipherKeeps_lifted (os : Os) (started : os.Started) (H : Type) (enc : TypeId × Value → H) :
    ReturnsInHanded {} Try.checked os 8 .any (Rows.cipherKeepsSpec.pre6 enc Try.prog Try.f8 Rows.cipherKeepsRow.domain false) (Rows.cipherKeepsSpec.post enc Try.prog Try.f8 false true false false) := by
  refine returnsInHanded_of_change_sized (C := Try.checked) own12 started (by kernel_rfl) Try.func8
    (ChangeSpec.witness6 (enc := enc) (C := Try.checked) false ⟨#[], #[.slice none 0 0, .agg (.replicate 16 (.int .u8 0))], []⟩ 20 (by kernel_rfl) (by kernel_rfl) (by kernel_rfl) (by kernel_rfl)) ?_
  intro W base args ds gs before hval0 hW hcnd hsz _
  have hval : ∀ (j : Nat) t v, Try.f8.params[j]? = some t → args[j]? = some v → Value.okWide Try.prog W .any base t v := hval0
  have hW' := hW
  have hlt := hW.lt
  obtain ⟨p, q, hA0, hV, rfl, hfz, hnd⟩ := hW
  have hA : DataW.TrodAll enc Try.prog W 0 (fun _ => true) true Try.f8.params.toList args.toList ds p := hA0
  rw [Try.params8] at hA hval
  obtain ⟨v0, vs0, d0, ds0, p0, q0, hargs, rfl, rfl, h0, r0⟩ := trodAll_cons hA
  obtain ⟨v1, vs1, d1, ds1, p1, q1, rfl, rfl, rfl, h1, r1⟩ := trodAll_cons r0
  obtain ⟨rfl, rfl, rfl⟩ := trodAll_nil r1
  obtain rfl : args = #[v0, v1] := by cases args; simp_all
  obtain ⟨rfl, rfl⟩ := trodVars_none hV
  obtain ⟨a0, ha0, hl0⟩ := open_bytes Try.underlying26 Try.underlying5 (by kernel_rfl) (hval 0 26 v0 rfl rfl) h0 (fun x hx => hlt x (by simp [hx]))
    (fun es sp h => by have := sized_slice (P := Try.prog) hsz (j := 0) (t := 26) rfl (by rw [h]; rfl) Try.underlying26; rw [show Try.prog.bytesOf 5 = 1 by kernel_rfl] at this; unfold reachBytes at this; omega)
  obtain ⟨a1, rfl⟩ := open_arr Try.underlying27 Try.underlying5 (by kernel_rfl) (by kernel_rfl) (hval 1 27 v1 rfl rfl) h1
  exact (cipherKeeps_walk W v0 a0 ha0 hl0 a1).mono fun e W' ⟨he, hb⟩ => ⟨_, he, law_post (by kernel_rfl) rfl rfl rfl rfl hW' hb⟩
theorem cipherKeeps_over : Rows.cipherKeepsRow.holds Try.pinned (OpenSpec.ofChange Rows.cipherKeepsSpec) :=
  OpenClaim.holds_of_wide 8 Try.f8 rfl rfl rfl rfl rfl rfl rfl ⟨rfl, rfl, rfl, rfl, rfl⟩ rfl rfl rfl rfl rfl (by kernel_rfl) Try.func8 (by kernel_rfl)
    (of_decide_eq_true (by kernel_rfl)) (by unfold Func.isWrapper; first | (rw [if_pos (by decide +kernel)]; kernel_rfl) | (rw [if_neg (by decide +kernel)]; exact ⟨rfl, rfl⟩))
    (fun os started H enc _ => cipherKeeps_lifted os started H enc)
end Go.Proofs.Ytkdebhdfbpbcoaa.XS
namespace Go.Proofs.Ytkdebhdfbpbcoaa
theorem cipherKeeps_holds : Rows.CipherKeepsSaid := XS.cipherKeeps_over
end Go.Proofs.Ytkdebhdfbpbcoaa
