/- Unlike blocks are encrypted to unlike blocks: the law CipherUnlike returns true for every key and every two blocks. -/
import Derived.Test.YtkdebhdfbpbcoaaLaw12a
import Derived.Test.YtkdebhdfbpbcoaaRow
import Derived.Test.YtkdebhdfbpbcoaaGf
import Derived.Test.YtkdebhdfbpbcoaaBoxInj
namespace Go.Proofs.Ytkdebhdfbpbcoaa.XS
open Go Go.RowKit Go.ChangeShapes Go.WideShapes Go.ChangeAt
set_option linter.unusedVariables false

theorem boxP_inj {a b : UInt8} (hb : ∀ x y, bx x = bx y → x = y) (e : bx a = bx b) : a = b := hb a b e
theorem addK_inj {ks f g : Nat → UInt8} {r j : Nat} (h : addK ks f r j = addK ks g r j) : f j = g j := by
  unfold addK at h
  have := congrArg (fun z => z ^^^ ks (16 * r + j)) h
  simpa [UInt8.xor_assoc] using this
theorem mvd_inj (hb : ∀ x y, bx x = bx y → x = y) {f g : Nat → UInt8} (h : ∀ j, j < 16 → mvd f j = mvd g j) (i : Nat) (hi : i < 16) : f i = g i := by
  have := h (4 * ((i / 4 + 4 - i % 4) % 4) + i % 4) (by omega)
  unfold mvd at this
  have e : 4 * (((4 * ((i / 4 + 4 - i % 4) % 4) + i % 4) / 4 + (4 * ((i / 4 + 4 - i % 4) % 4) + i % 4) % 4) % 4) + (4 * ((i / 4 + 4 - i % 4) % 4) + i % 4) % 4 = i := by omega
  rw [e] at this
  exact hb _ _ this
theorem dbl_zero : dbl 0 = 0 := by rfl
/-- Four bytes that are mixed to zeros are zeros. -/
theorem mix_zero {a b c d : UInt8} (h0 : a ^^^ (a ^^^ b ^^^ c ^^^ d) ^^^ dbl (a ^^^ b) = 0) (h1 : b ^^^ (a ^^^ b ^^^ c ^^^ d) ^^^ dbl (b ^^^ c) = 0)
    (h2 : c ^^^ (a ^^^ b ^^^ c ^^^ d) ^^^ dbl (c ^^^ d) = 0) (h3 : d ^^^ (a ^^^ b ^^^ c ^^^ d) ^^^ dbl (d ^^^ a) = 0) : a = 0 ∧ b = 0 ∧ c = 0 ∧ d = 0 := by
  have hs : a ^^^ b ^^^ c ^^^ d = 0 := by
    have e : (a ^^^ (a ^^^ b ^^^ c ^^^ d) ^^^ dbl (a ^^^ b)) ^^^ (b ^^^ (a ^^^ b ^^^ c ^^^ d) ^^^ dbl (b ^^^ c)) ^^^ (c ^^^ (a ^^^ b ^^^ c ^^^ d) ^^^ dbl (c ^^^ d)) ^^^ (d ^^^ (a ^^^ b ^^^ c ^^^ d) ^^^ dbl (d ^^^ a)) = a ^^^ b ^^^ c ^^^ d := by
      generalize hq : a ^^^ b ^^^ c ^^^ d = q
      have hd : dbl (a ^^^ b) ^^^ dbl (b ^^^ c) ^^^ dbl (c ^^^ d) ^^^ dbl (d ^^^ a) = 0 := by
        simp only [dbl_xor]
        have : dbl a ^^^ dbl b ^^^ (dbl b ^^^ dbl c) ^^^ (dbl c ^^^ dbl d) ^^^ (dbl d ^^^ dbl a) = (dbl a ^^^ dbl a) ^^^ (dbl b ^^^ dbl b) ^^^ (dbl c ^^^ dbl c) ^^^ (dbl d ^^^ dbl d) := by ac_rfl
        rw [this]; simp
      have : (a ^^^ q ^^^ dbl (a ^^^ b)) ^^^ (b ^^^ q ^^^ dbl (b ^^^ c)) ^^^ (c ^^^ q ^^^ dbl (c ^^^ d)) ^^^ (d ^^^ q ^^^ dbl (d ^^^ a)) = (a ^^^ b ^^^ c ^^^ d) ^^^ ((q ^^^ q) ^^^ (q ^^^ q)) ^^^ (dbl (a ^^^ b) ^^^ dbl (b ^^^ c) ^^^ dbl (c ^^^ d) ^^^ dbl (d ^^^ a)) := by ac_rfl
      rw [this, hd, hq]; simp
    rw [h0, h1, h2, h3] at e
    simpa using e.symm
  rw [hs] at h0 h1 h2 h3
  have z : ∀ x y : UInt8, x ^^^ 0 ^^^ y = 0 → x = y := fun x y h => by
    rw [UInt8.xor_zero] at h
    have := congrArg (fun t => t ^^^ y) h
    simpa [UInt8.xor_assoc] using this
  have e0 := z _ _ h0
  have e1 := z _ _ h1
  have e2 := z _ _ h2
  have e3 := z _ _ h3
  -- a = 2 (a + b), b = 2 (b + c): so a + b = 2 (a + c); a = 4 (a + c); c = 4 (c + a)
  have ab : a ^^^ b = dbl (a ^^^ c) := by
    rw [show a ^^^ b = dbl (a ^^^ b) ^^^ dbl (b ^^^ c) by rw [← e0, ← e1], ← dbl_xor]
    congr 1
    have : a ^^^ b ^^^ (b ^^^ c) = a ^^^ c ^^^ (b ^^^ b) := by ac_rfl
    rw [this]; simp
  have cd : c ^^^ d = dbl (a ^^^ c) := by
    rw [show c ^^^ d = dbl (c ^^^ d) ^^^ dbl (d ^^^ a) by rw [← e2, ← e3], ← dbl_xor]
    congr 1
    have : c ^^^ d ^^^ (d ^^^ a) = a ^^^ c ^^^ (d ^^^ d) := by ac_rfl
    rw [this]; simp
  have hac : a = c := by rw [e0, e2, ab, cd]
  have e4 : a ^^^ c = 0 := by rw [hac]; simp
  rw [e4, dbl_zero] at ab cd
  rw [ab, dbl_zero] at e0
  rw [cd, dbl_zero] at e2
  rw [e0] at ab
  rw [e2] at cd
  exact ⟨e0, by simpa using ab, e2, by simpa using cd⟩
theorem mxd_xor (f g : Nat → UInt8) (j : Nat) : mxd (fun i => f i ^^^ g i) j = mxd f j ^^^ mxd g j := by
  unfold mxd
  simp only [dbl_xor]
  ac_rfl
theorem mxd_inj {f g : Nat → UInt8} (h : ∀ j, j < 16 → mxd f j = mxd g j) (i : Nat) (hi : i < 16) : f i = g i := by
  have hd : ∀ j, j < 16 → mxd (fun i => f i ^^^ g i) j = 0 := fun j hj => by rw [mxd_xor, h j hj]; simp
  have key : ∀ c, c < 4 → ∀ k, k < 4 → f (4 * c + k) ^^^ g (4 * c + k) = 0 := by
    intro c hc
    have hk : ∀ k, k < 4 → (fun i => f i ^^^ g i) (4 * c + k) ^^^ ((fun i => f i ^^^ g i) (4 * c) ^^^ (fun i => f i ^^^ g i) (4 * c + 1) ^^^ (fun i => f i ^^^ g i) (4 * c + 2) ^^^ (fun i => f i ^^^ g i) (4 * c + 3)) ^^^ dbl ((fun i => f i ^^^ g i) (4 * c + k) ^^^ (fun i => f i ^^^ g i) (4 * c + (k + 1) % 4)) = 0 := fun k hk => by
      have := hd (4 * c + k) (by omega)
      unfold mxd at this
      rwa [show (4 * c + k) / 4 * 4 = 4 * c by omega, show (4 * c + k) % 4 = k by omega] at this
    have m := mix_zero (hk 0 (by omega)) (hk 1 (by omega)) (hk 2 (by omega)) (hk 3 (by omega))
    intro k hk4
    rcases (by omega : k = 0 ∨ k = 1 ∨ k = 2 ∨ k = 3) with rfl | rfl | rfl | rfl
    · exact m.1
    · exact m.2.1
    · exact m.2.2.1
    · exact m.2.2.2
  have h0 := key (i / 4) (by omega) (i % 4) (by omega)
  rw [show 4 * (i / 4) + i % 4 = i by omega] at h0
  have := congrArg (fun t => t ^^^ g i) h0
  simpa [UInt8.xor_assoc] using this
theorem blk_inj (hb : ∀ x y, bx x = bx y → x = y) {ks f g : Nat → UInt8} : ∀ (r : Nat), (∀ i, i < 16 → blk ks f r i = blk ks g r i) → ∀ i, i < 16 → f i = g i
  | 0, h, i, hi => addK_inj (by have := h i hi; unfold blk at this; exact this)
  | r + 1, h, i, hi => blk_inj hb r (mvd_inj hb (mxd_inj fun j hj => addK_inj (by have := h j hj; unfold blk at this; exact this))) i hi
theorem enc_inj (hb : ∀ x y, bx x = bx y → x = y) {ks f g : Nat → UInt8} {R : Nat} (h : ∀ i, i < 16 → enc ks f R i = enc ks g R i) (i : Nat) (hi : i < 16) : f i = g i :=
  blk_inj hb (R - 1) (mvd_inj hb fun j hj => addK_inj (by have := h j hj; unfold enc at this; exact this)) i hi

theorem ru12 (f g : Nat → UInt8) (w : World) : (Op.equalIn 10000 27 (.agg (bytesV (mk 16 f))) (.agg (bytesV (mk 16 g)))).run Try.prog w = .ok (eqA 16 f g) w := run_equal_arr (E := 5) (k := .u8) (by kernel_rfl) (by kernel_rfl) (by kernel_rfl) f g
theorem eg12 : Try.prog.eqGuardType Try.prog.depth 27 = false := by kernel_rfl
attribute [local go_sem] ru12 eg12
theorem blocks_same {ks f g : Nat → UInt8} {R : Nat} : (eqA 16 (enc ks f R) (enc ks g R) == eqA 16 f g) = true := by
  rw [beq_iff_eq, Bool.eq_iff_iff, eqA_true, eqA_true]
  exact ⟨fun h => enc_inj (fun _ _ => bx_inj) h, fun h => enc_congr' (fun _ _ => rfl) h⟩

set_option maxHeartbeats 2000000 in
set_option maxRecDepth 100000 in
theorem cipherUnlike_walk (w : World) (v : Value) (l : List UInt8) (hv : RdB w w.heap.size v l) (_ : l.length ≤ 140737488351232) (a b : Nat → UInt8) :
    Calls Try.prog 5 #[v, .agg (bytesV (mk 16 a)), .agg (bytesV (mk 16 b))] w fun e w' => e = .returned (.bool true) ∧ Below w.heap.size w w' := by
  have HV := Lib.hid hv; clear hv
  have HBase := Lib.hid (((Below.refl w.heap.size w).alloc (Nat.le_refl _) (Obj.cells (bytesV (mk 16 a)) 27)).alloc (by simp) (Obj.cells (bytesV (mk 16 b)) 27))
  by_cases hk : l.length = 16 ∨ l.length = 24 ∨ l.length = 32
  · obtain ⟨n, hn, hl⟩ : ∃ n, (n = 4 ∨ n = 6 ∨ n = 8) ∧ l.length = 4 * n := by
      rcases hk with h | h | h
      · exact ⟨4, .inl rfl, h⟩
      · exact ⟨6, .inr (.inl rfl), h⟩
      · exact ⟨8, .inr (.inr rfl), h⟩
    have HN := Lib.hid hn; clear hn
    have HL := Lib.hid hl; clear hl hk
    go_enter Try.func5, Try.ntmps5
    go_wp2_with fail
    refine (new_ok _ _ l n ((HV.out.below HBase.out (Nat.le_refl _)).mono HBase.out.size) HL.out HN.out).mono ?_
    rintro e w1 ⟨kb, hkb, rfl, hkey, hb1⟩
    have h4 := (((Blk.new w (bytesV (mk 16 a)) 27).alloc (Obj.cells (bytesV (mk 16 b)) 27))).below hb1 (by simp; omega)
    have h5 := (Blk.new' (w := w.alloc (Obj.cells (bytesV (mk 16 a)) 27)) (b := w.heap.size + 1) (by simp) (bytesV (mk 16 b)) 27).below hb1 (by simp)
    have HB1 := Lib.hid (HBase.out.trans (hb1.mono HBase.out.size))
    have hs1 := hb1.size
    simp at hs1
    have H4 := Lib.hid h4; clear h4
    have H5 := Lib.hid h5; clear h5
    have HK := Lib.hid hkey; clear hkey hb1
    have hkl := HK.out.lt
    go_wp2
    refine wp_region_cls 15 (fun w' => Below w1.heap.size w1 w') (by kernel_rfl) (by kernel_rfl) (by kernel_rfl) (by rfl) (Below.refl _ _).drew ?_
    simp only [List.take_succ_cons, List.take_zero]
    refine quiet_call rfl 9 #[] (fun w' => by kernel_rfl) (.bool true) (fun w' hC => (alive12_any w').mono fun e w2 h => ⟨h.1, hC.trans (h.2.mono hC.size)⟩) ?_
    refine quiet_segN 3 (by kernel_rfl) (by kernel_rfl) (by rfl) ⟨_, Below.refl _ _⟩ ?_
    apply Exists.intro
    refine ⟨fun w' hC K hK => ?seg, ?next⟩
    case seg =>
      have H4' := Lib.hid (H4.out.below hC (by omega))
      have HC := Lib.hid hC; clear hC
      simp only [List.take_succ_cons, List.take_zero]
      go_wp2_with (refine wpList_loadR rfl _ _ rfl w.heap.size _ rfl _ H4'.out (by kernel_rfl) 16 (by kernel_rfl) (by rw [bytesV_size, mk_length]) ?_)
      exact hK _ _ ⟨by rfl, rfl⟩
    case next =>
      simp only [List.drop_succ_cons, List.drop_zero]
      refine quiet_callG rfl 17 #[.pointer (some ⟨kb, 0, none⟩), .agg (bytesV (mk 16 a))] (fun w' => by kernel_rfl) (.agg (bytesV (mk 16 (enc (keyZ n fun i => l[i]?.getD 0) a (n + 6)))))
        (fun w' hC => (block_any w' kb _ a (n + 6) (by omega) (by have := HN.out; omega) (HK.out.below hC hkl)).mono fun e w2 h => ⟨h.1, hC.trans (h.2.mono hC.size)⟩) ?_
      refine quiet_segN 2 (by kernel_rfl) (by kernel_rfl) (by rfl) ⟨_, Below.refl _ _⟩ ?_
      apply Exists.intro
      refine ⟨fun w' hC K hK => ?seg2, ?next2⟩
      case seg2 =>
        have H5' := Lib.hid (H5.out.below hC (by omega))
        have HC := Lib.hid hC; clear hC
        simp only [List.take_succ_cons, List.take_zero]
        go_wp2_with (refine wpList_loadR rfl _ _ rfl (w.heap.size + 1) _ rfl _ H5'.out (by kernel_rfl) 16 (by kernel_rfl) (by rw [bytesV_size, mk_length]) ?_)
        exact hK _ _ ⟨by rfl, rfl⟩
      case next2 =>
        simp only [List.drop_succ_cons, List.drop_zero]
        refine quiet_callG rfl 17 #[.pointer (some ⟨kb, 0, none⟩), .agg (bytesV (mk 16 b))] (fun w' => by kernel_rfl) (.agg (bytesV (mk 16 (enc (keyZ n fun i => l[i]?.getD 0) b (n + 6)))))
          (fun w' hC => (block_any w' kb _ b (n + 6) (by omega) (by have := HN.out; omega) (HK.out.below hC hkl)).mono fun e w2 h => ⟨h.1, hC.trans (h.2.mono hC.size)⟩) ?_
        refine quiet_segN 7 (by kernel_rfl) (by kernel_rfl) (by rfl) ⟨_, Below.refl _ _⟩ ?_
        apply Exists.intro
        refine ⟨fun w' hC K hK => ?seg3, ?next3⟩
        case seg3 =>
          have H4' := Lib.hid (H4.out.below hC (by omega))
          have H5' := Lib.hid (H5.out.below hC (by omega))
          have HC := Lib.hid hC; clear hC
          have hsame := blocks_same (ks := keyZ n fun i => l[i]?.getD 0) (f := a) (g := b) (R := n + 6)
          simp only [List.take_succ_cons, List.take_zero]
          go_wp2_with (first
            | (refine wpList_loadR rfl _ _ rfl w.heap.size _ rfl _ H4'.out (by kernel_rfl) 16 (by kernel_rfl) (by rw [bytesV_size, mk_length]) ?_)
            | (refine wpList_loadR rfl _ _ rfl (w.heap.size + 1) _ rfl _ H5'.out (by kernel_rfl) 16 (by kernel_rfl) (by rw [bytesV_size, mk_length]) ?_))
          exact hK _ _ ⟨by rfl, rfl⟩
        case next3 =>
          simp only [List.drop_succ_cons, List.drop_zero]
          refine wpQuiet_nil ?_
          intro w' hC
          have HC := Lib.hid hC; clear hC
          go_wp2
          go_ret
          exact ⟨rfl, HB1.out.trans (HC.out.mono (by omega))⟩
  · have h16 : l.length ≠ 16 := fun h => hk (.inl h)
    have h24 : l.length ≠ 24 := fun h => hk (.inr (.inl h))
    have h32 : l.length ≠ 32 := fun h => hk (.inr (.inr h))
    have HN := Lib.hid (And.intro h16 (And.intro h24 h32))
    clear h16 h24 h32 hk
    go_enter Try.func5, Try.ntmps5
    go_wp2_with fail
    refine (new_bad _ _ l ((HV.out.below HBase.out (Nat.le_refl _)).mono HBase.out.size) HN.out.1 HN.out.2.1 HN.out.2.2).mono ?_
    rintro e w1 ⟨rfl, rfl⟩
    go_wp2_with fail
    refine (alive12_any _).mono ?_
    rintro e w2 ⟨rfl, hb2⟩
    have HB2 := Lib.hid (HBase.out.trans (hb2.mono HBase.out.size)); clear hb2
    go_wp2
    go_ret
    exact ⟨rfl, HB2.out⟩

set_option maxRecDepth 100000 in
theorem cipherUnlike_lifted (os : Os) (started : os.Started) (H : Type) (enc : TypeId × Value → H) :
    ReturnsInHanded {} Try.checked os 5 .any (Rows.cipherUnlikeSpec.pre6 enc Try.prog Try.f5 Rows.cipherUnlikeRow.domain false) (Rows.cipherUnlikeSpec.post enc Try.prog Try.f5 false true false false) := by
  refine returnsInHanded_of_change_sized (C := Try.checked) own12 started (by kernel_rfl) Try.func5
    (ChangeSpec.witness6 (enc := enc) (C := Try.checked) false ⟨#[], #[.slice none 0 0, .agg (.replicate 16 (.int .u8 0)), .agg (.replicate 16 (.int .u8 0))], []⟩ 20 (by kernel_rfl) (by kernel_rfl) (by kernel_rfl) (by kernel_rfl)) ?_
  intro W base args ds gs before hval0 hW hcnd hsz _
  have hval : ∀ (j : Nat) t v, Try.f5.params[j]? = some t → args[j]? = some v → Value.okWide Try.prog W .any base t v := hval0
  have hW' := hW
  have hlt := hW.lt
  obtain ⟨p, q, hA0, hV, rfl, hfz, hnd⟩ := hW
  have hA : DataW.TrodAll enc Try.prog W 0 (fun _ => true) true Try.f5.params.toList args.toList ds p := hA0
  rw [Try.params5] at hA hval
  obtain ⟨v0, vs0, d0, ds0, p0, q0, hargs, rfl, rfl, h0, r0⟩ := trodAll_cons hA
  obtain ⟨v1, vs1, d1, ds1, p1, q1, rfl, rfl, rfl, h1, r1⟩ := trodAll_cons r0
  obtain ⟨v2, vs2, d2, ds2, p2, q2, rfl, rfl, rfl, h2, r2⟩ := trodAll_cons r1
  obtain ⟨rfl, rfl, rfl⟩ := trodAll_nil r2
  obtain rfl : args = #[v0, v1, v2] := by cases args; simp_all
  obtain ⟨rfl, rfl⟩ := trodVars_none hV
  obtain ⟨a0, ha0, hl0⟩ := open_bytes Try.underlying26 Try.underlying5 (by kernel_rfl) (hval 0 26 v0 rfl rfl) h0 (fun x hx => hlt x (by simp [hx]))
    (fun es sp h => by have := sized_slice (P := Try.prog) hsz (j := 0) (t := 26) rfl (by rw [h]; rfl) Try.underlying26; rw [show Try.prog.bytesOf 5 = 1 by kernel_rfl] at this; unfold reachBytes at this; omega)
  obtain ⟨a1, rfl⟩ := open_arr Try.underlying27 Try.underlying5 (by kernel_rfl) (by kernel_rfl) (hval 1 27 v1 rfl rfl) h1
  obtain ⟨a2, rfl⟩ := open_arr Try.underlying27 Try.underlying5 (by kernel_rfl) (by kernel_rfl) (hval 2 27 v2 rfl rfl) h2
  exact (cipherUnlike_walk W v0 a0 ha0 hl0 a1 a2).mono fun e W' ⟨he, hb⟩ => ⟨_, he, law_post (by kernel_rfl) rfl rfl rfl rfl hW' hb⟩
theorem cipherUnlike_over : Rows.cipherUnlikeRow.holds Try.pinned (OpenSpec.ofChange Rows.cipherUnlikeSpec) :=
  OpenClaim.holds_of_wide 5 Try.f5 rfl rfl rfl rfl rfl rfl rfl ⟨rfl, rfl, rfl, rfl, rfl⟩ rfl rfl rfl rfl rfl (by kernel_rfl) Try.func5 (by kernel_rfl)
    (of_decide_eq_true (by kernel_rfl)) (by unfold Func.isWrapper; first | (rw [if_pos (by decide +kernel)]; kernel_rfl) | (rw [if_neg (by decide +kernel)]; exact ⟨rfl, rfl⟩))
    (fun os started H enc _ => cipherUnlike_lifted os started H enc)
end Go.Proofs.Ytkdebhdfbpbcoaa.XS
namespace Go.Proofs.Ytkdebhdfbpbcoaa
theorem cipherUnlike_holds : Rows.CipherUnlikeSaid := XS.cipherUnlike_over
end Go.Proofs.Ytkdebhdfbpbcoaa
