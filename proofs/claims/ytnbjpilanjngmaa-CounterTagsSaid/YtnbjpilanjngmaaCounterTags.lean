/- Where one of the last ten bytes is another one nothing is told but that: the law CounterTags returns true for every case, every place and every byte. -/
import Derived.Test.YtnbjpilanjngmaaLaw13a
import Derived.Test.YtnbjpilanjngmaaRow13
namespace Go.Proofs.Ytnbjpilanjngmaa.XS
open Go Go.RowKit Go.ChangeShapes Go.WideShapes Go.ChangeAt
set_option linter.unusedVariables false
attribute [local go_sem] bits_xr

def turnB (sd : List UInt8) (k : Nat) (x : UInt8) : List UInt8 := sd.set k (xr (byteAt sd k) x)
theorem turnB_at {sd : List UInt8} {k : Nat} {x : UInt8} (hk : k < sd.length) (i : Nat) : byteAt (turnB sd k x) i = if i = k then xr (byteAt sd k) x else byteAt sd i := by
  unfold turnB
  unfold byteAt
  rw [List.getElem?_set]
  by_cases h : k = i
  · subst h; simp [hk]
  · simp [h, Ne.symm h]
theorem turnB_length (sd : List UInt8) (k : Nat) (x : UInt8) : (turnB sd k x).length = sd.length := List.length_set
theorem tags_err {n : Nat} {pw salt data : List UInt8} (hs : 2 * salt.length = n) (h0 : n ≠ 0) (at_ : Nat) (ha : at_ ≤ 9) (x : UInt8) (hx : x ≠ 0) :
    openE n pw (turnB (sealB n pw salt data) ((sealB n pw salt data).length - 1 - at_) x) = 132 := by
  have hN : (sealB n pw salt data).length = salt.length + data.length + 12 := sealB_length
  have hk : (sealB n pw salt data).length - 1 - at_ < (sealB n pw salt data).length := by omega
  have e1 : oSalt n (turnB (sealB n pw salt data) ((sealB n pw salt data).length - 1 - at_) x) = salt := by
    refine Eq.trans (b := oSalt n (sealB n pw salt data)) ?_ (back_salt hs)
    unfold oSalt
    exact mk_congr fun i hi => by rw [turnB_at hk, if_neg (by omega)]
  have e2 : oSaw n (turnB (sealB n pw salt data) ((sealB n pw salt data).length - 1 - at_) x) = kSaw n pw salt := by
    rw [← back_saw (pw := pw) (data := data) hs]
    unfold oSaw
    exact mk_congr fun i hi => by rw [turnB_at hk, if_neg (by omega)]
  have e3 : oIns n (turnB (sealB n pw salt data) ((sealB n pw salt data).length - 1 - at_) x) = insideB n pw salt data := by
    rw [← back_ins (pw := pw) (data := data) hs]
    unfold oIns
    rw [turnB_length]
    exact mk_congr fun i hi => by rw [turnB_at hk, if_neg (by omega)]
  have e4 : ¬ tagB n pw salt (insideB n pw salt data) = oEnd (turnB (sealB n pw salt data) ((sealB n pw salt data).length - 1 - at_) x) := fun h => by
    rw [← back_end (n := n) (pw := pw) (salt := salt) (data := data)] at h
    unfold oEnd at h
    rw [turnB_length] at h
    have h9 := congrArg (fun l => l[9 - at_]?.getD 0) h
    try simp only [] at h9
    rw [mk_get (by omega), mk_get (by omega), turnB_at hk, if_pos (by omega), show (sealB n pw salt data).length - 10 + (9 - at_) = (sealB n pw salt data).length - 1 - at_ by omega] at h9
    apply hx
    unfold xr at h9
    have h10 := congrArg (fun t => byteAt (sealB n pw salt data) ((sealB n pw salt data).length - 1 - at_) ^^^ t) h9
    try simp only [] at h10
    rw [UInt8.xor_self, ← UInt8.xor_assoc, UInt8.xor_self, UInt8.zero_xor] at h10
    exact h10.symm
  unfold openE
  rw [if_neg (by rw [turnB_length, hN]; omega), e1, e2, if_neg (fun h => h rfl), e3, if_pos e4]

set_option maxHeartbeats 2000000 in
set_option maxRecDepth 100000 in
theorem counterTags_walk (w : World) (z : Int) (vp vs vd : Value) (pw salt data : List UInt8) (hp : RdB w w.heap.size vp pw) (hlp : pw.length ≤ 140737488351232) (hs : RdB w w.heap.size vs salt) (hls : salt.length ≤ 140737488351232) (hd : RdB w w.heap.size vd data) (hld : data.length ≤ 140737488351232)
    (at_ : Int) (hwa : (Lit.int .i64 at_).wf = true) (x : UInt8) :
    Calls Try.prog 8 #[.agg #[.int .i64 z, vp, vs, vd], .int .i64 at_, .int .u8 (x.toNat : Int)] w fun e w' => e = .returned (.bool true) ∧ Below w.heap.size w w' := by
  have HP := Lib.hid hp; clear hp
  have HS := Lib.hid hs; clear hs
  have HD := Lib.hid hd; clear hd
  obtain ⟨n, hn⟩ : ∃ n, szN z = n := ⟨_, rfl⟩
  by_cases hok : n ≠ 0 ∧ 2 * salt.length = n
  · obtain ⟨hn0, hsl⟩ := hok
    have HN := Lib.hid (And.intro hn (And.intro hn0 hsl)); clear hn hn0 hsl
    go_enter Try.func8, Try.ntmps8
    have HB0 := Lib.hid ((Below.refl w.heap.size w).alloc (Nat.le_refl _) (Obj.cells #[Value.int .i64 z, vp, vs, vd] 29))
    have HC0 := Lib.hid (Blk.new w #[Value.int .i64 z, vp, vs, vd] 29)
    have hz0 : (w.alloc (Obj.cells #[Value.int .i64 z, vp, vs, vd] 29)).heap.size = w.heap.size + 1 := by simp
    go_wp2_with fail
    refine (seal_ok z pw salt data vp vs vd w.heap.size _ (by omega) (HP.out.below HB0.out (Nat.le_refl _)) (HS.out.below HB0.out (Nat.le_refl _)) (HD.out.below HB0.out (Nat.le_refl _)) n HN.out.1 HN.out.2.1 HN.out.2.2 (by omega) (by omega)).mono ?_
    rintro e w1 ⟨v, rfl, hf, hb1⟩
    have HB1 := Lib.hid (HB0.out.trans (hb1.mono HB0.out.size))
    have HC1 := Lib.hid (HC0.out.below hb1 HC0.out.lt)
    have hs1 := HB1.out.size
    have hlt1 := HC1.out.lt
    obtain ⟨g, cap, rfl, hg, hc1, hc2, hcell, hfz⟩ := hf
    rw [hz0] at hg
    have hlen : (sealB n pw salt data).length = salt.length + data.length + 12 := sealB_length
    clear hb1
    by_cases hgood : 0 ≤ at_ ∧ at_ ≤ 9 ∧ x ≠ 0
    · obtain ⟨ha0, ha9, hx0⟩ := hgood
      obtain ⟨k, rfl⟩ : ∃ k : Nat, at_ = (k : Int) := ⟨at_.toNat, by omega⟩
      have hk9 : k ≤ 9 := by omega
      have hE := tags_err (pw := pw) (data := data) HN.out.2.2 HN.out.2.1 k hk9 x hx0
      have d1 : decide ((k : Int) < 0) = false := decide_eq_false (by omega)
      have d2 : decide (9 < (k : Int)) = false := decide_eq_false (by omega)
      have d3 : ((x.toNat : Int) == 0) = false := by
        rw [beq_eq_false_iff_ne]; intro e; apply hx0; exact UInt8.toNat_inj.1 (by simpa using e)
      generalize sealB n pw salt data = SD at *
      obtain ⟨N, hN⟩ : ∃ N, SD.length = N := ⟨_, rfl⟩
      rw [hN] at hc1 hcell hfz hlen hE ⊢
      have hN12 : 12 ≤ N := by omega
      have d4 : decide ((N : Int) < 10) = false := decide_eq_false (by omega)
      have ck := hcell (N - 1 - k) (by omega)
      have fk := hfz (N - 1 - k) (by omega)
      have HCELL := Lib.hid hcell
      have HNN := Lib.hid hN
      have HLEN := Lib.hid hlen
      have HE := Lib.hid hE
      clear hcell hfz hN hlen hE ha0 ha9 hx0 hwa
      have c0 : w1.cell? ⟨w.heap.size, 0, none⟩ = some (.int .i64 z) := HC1.out.cell rfl
      have c1 : w1.cell? ⟨w.heap.size, 1, none⟩ = some vp := HC1.out.cell rfl
      go_wp2_with fail
      have hsz1 : (w1.setCell ⟨g, N - 1 - k, none⟩ (Value.int .u8 ((xr (byteAt SD (N - 1 - k)) x).toNat : Int))).heap.size = w1.heap.size := by simp [World.setCell]
      have HBS := Lib.hid (HB1.out.setCell (show w.heap.size ≤ (⟨g, N - 1 - k, none⟩ : Addr).block from Nat.le_of_succ_le hg) (Value.int .u8 ((xr (byteAt SD (N - 1 - k)) x).toNat : Int)))
      have hr : RdB (w1.setCell ⟨g, N - 1 - k, none⟩ (Value.int .u8 ((xr (byteAt SD (N - 1 - k)) x).toNat : Int))) w1.heap.size (.slice (some ⟨g, 0, none⟩) N cap) (turnB SD (N - 1 - k) x) := by
        have hgw : g < w1.heap.size := World.block_lt_of_cell? w1 _ ck
        have h := RdB.ofCells (w := w1.setCell ⟨g, N - 1 - k, none⟩ (Value.int .u8 ((xr (byteAt SD (N - 1 - k)) x).toNat : Int))) (g := g) (o := 0) (n := N) (cap := cap) (f := byteAt (turnB SD (N - 1 - k) x)) (by rw [hsz1]; exact hgw) hc1 hc2 fun i hi => by
          rw [Nat.zero_add, turnB_at (by rw [HNN.out]; omega)]
          by_cases hik : i = N - 1 - k
          · subst hik; rw [if_pos rfl]; exact World.cell?_setCell_same _ _ _ ck
          · rw [if_neg hik, World.cell?_setCell_other _ _ _ _ (fun e => hik (Addr.mk.inj e).2.1.symm)]; exact HCELL.out i hi
        rw [hsz1] at h
        have e : mk N (byteAt (turnB SD (N - 1 - k) x)) = turnB SD (N - 1 - k) x := mk_self _ _ (by rw [turnB_length]; exact HNN.out)
        rw [e] at h
        exact h
      have HRD := Lib.hid hr
      have HC2 := Lib.hid (HC1.out.set_ne (show w.heap.size ≠ g by omega) (N - 1 - k) none (Value.int .u8 ((xr (byteAt SD (N - 1 - k)) x).toNat : Int)))
      clear hr
      refine (open_ok z pw (turnB SD (N - 1 - k) x) vp _ w1.heap.size _ (by rw [hsz1]; exact Nat.le_refl _) ((HP.out.below HBS.out (Nat.le_refl _)).mono hs1) HRD.out n HN.out.1 HN.out.2.1 (by rw [turnB_length, HNN.out]; have h1 := HLEN.out; have h2 := HN.out.2.2; omega) (by omega) (by rw [turnB_length, HNN.out]; have h1 := HLEN.out; have h2 := HN.out.2.2; have h3 := szN_cases z; have h4 := HN.out.1; omega)).mono ?_
      rintro e w2 ⟨v2, rfl, hr2, hb2⟩
      rw [HE.out]
      have hd0 : openD n pw (turnB SD (N - 1 - k) x) = [] := by unfold openD; rw [HE.out]; rfl
      rw [hd0] at hr2
      obtain ⟨bv, cv, rfl, _, _, _, _⟩ := hr2
      have HB2 := Lib.hid (HBS.out.trans (hb2.mono (by rw [hsz1]; exact hs1)))
      clear hb2 hd0 c0 c1 ck fk
      go_wp2_with fail
      refine (alive13_any _).mono ?_
      rintro e w3 ⟨rfl, hb3⟩
      have HB3 := Lib.hid (HB2.out.trans (hb3.mono HB2.out.size))
      clear hb3
      go_wp2
      go_ret
      exact ⟨rfl, HB3.out⟩
    · have HB := Lib.hid HB1.out
      clear hg hc1 hc2 hcell hfz hlen
      by_cases hlo : at_ < 0
      · have d1 : decide (at_ < 0) = true := decide_eq_true hlo
        go_wp2_with fail
        refine (alive13_any _).mono ?_
        rintro e w3 ⟨rfl, hb3⟩
        have HB3 := Lib.hid (HB1.out.trans (hb3.mono HB1.out.size))
        clear hb3
        go_wp2
        go_ret
        exact ⟨rfl, HB3.out⟩
      · have d1 : decide (at_ < 0) = false := decide_eq_false hlo
        by_cases hhi : 9 < at_
        · have d2 : decide (9 < at_) = true := decide_eq_true hhi
          go_wp2_with fail
          refine (alive13_any _).mono ?_
          rintro e w3 ⟨rfl, hb3⟩
          have HB3 := Lib.hid (HB1.out.trans (hb3.mono HB1.out.size))
          clear hb3
          go_wp2
          go_ret
          exact ⟨rfl, HB3.out⟩
        · have d2 : decide (9 < at_) = false := decide_eq_false hhi
          obtain rfl : x = 0 := by
            apply Classical.byContradiction
            intro h
            exact hgood ⟨by omega, by omega, h⟩
          go_wp2_with fail
          refine (alive13_any _).mono ?_
          rintro e w3 ⟨rfl, hb3⟩
          have HB3 := Lib.hid (HB1.out.trans (hb3.mono HB1.out.size))
          clear hb3
          go_wp2
          go_ret
          exact ⟨rfl, HB3.out⟩
  · have hbad : szN z = 0 ∨ 2 * salt.length ≠ szN z := by
      rw [hn]
      rcases Nat.eq_zero_or_pos n with h | h
      · exact .inl h
      · exact .inr fun e => hok ⟨by omega, e⟩
    have HBAD := Lib.hid hbad; clear hbad hok hn
    have HB0 := Lib.hid ((Below.refl w.heap.size w).alloc (Nat.le_refl _) (Obj.cells #[Value.int .i64 z, vp, vs, vd] 29))
    go_enter Try.func8, Try.ntmps8
    go_wp2_with fail
    refine (seal_bad z pw salt data vp vs vd w.heap.size _ (HS.out.below HB0.out (Nat.le_refl _)) HBAD.out).mono ?_
    rintro e w1 ⟨rfl, rfl⟩
    go_wp2_with fail
    refine (alive13_any _).mono ?_
    rintro e w2 ⟨rfl, hb2⟩
    have HB2 := Lib.hid (HB0.out.trans (hb2.mono HB0.out.size)); clear hb2
    go_wp2
    go_ret
    exact ⟨rfl, HB2.out⟩
set_option maxRecDepth 100000 in
theorem counterTags_lifted (os : Os) (started : os.Started) (H : Type) (enc : TypeId × Value → H) :
    ReturnsInHanded {} Try.checked os 8 .any (Rows.counterTagsSpec.pre6 enc Try.prog Try.f8 Rows.counterTagsRow.domain false) (Rows.counterTagsSpec.post enc Try.prog Try.f8 false true false false) := by
  refine returnsInHanded_of_change_sized (C := Try.checked) own12 started (by kernel_rfl) Try.func8
    (ChangeSpec.witness6 (enc := enc) (C := Try.checked) false ⟨#[], #[.agg #[.int .i64 0, .slice none 0 0, .slice none 0 0, .slice none 0 0], .int .i64 0, .int .u8 0], []⟩ 20 (by kernel_rfl) (by kernel_rfl) (by kernel_rfl) (by kernel_rfl)) ?_
  intro W base args ds gs before hval0 hW hcnd hsz _
  have hval : ∀ (j : Nat) t v, Try.f8.params[j]? = some t → args[j]? = some v → Value.okWide Try.prog W .any base t v := hval0
  have hW' := hW
  have hlt := hW.lt
  obtain ⟨p, q, hA0, hV, rfl, hfz, hnd⟩ := hW
  have hA : DataW.TrodAll enc Try.prog W 0 (fun _ => true) true Try.f8.params.toList args.toList ds p := hA0
  rw [Try.params8] at hA hval
  obtain ⟨v0, vs0, d0, ds0, p0, q0, hargs, rfl, rfl, h0, r0⟩ := trodAll_cons hA
  obtain ⟨v1, vs1, d1, ds1, p1, q1, rfl, rfl, rfl, h1, r1⟩ := trodAll_cons r0
  obtain ⟨v2, vs2, d2, ds2, p2, q2, rfl, rfl, rfl, h2, r2⟩ := trodAll_cons r1
  obtain ⟨rfl, rfl, rfl⟩ := trodAll_nil r2
  obtain rfl : args = #[v0, v1, v2] := by cases args; simp_all
  obtain ⟨rfl, rfl⟩ := trodVars_none hV
  obtain ⟨z0, vp0, vs0, vd0, pw0, salt0, data0, rfl, rp0, lp0, rs0, ls0, rd0, ld0⟩ := open_case (hval 0 29 v0 rfl rfl) h0 (fun x hx => hlt x (by simp [hx])) (fun n hn => by simpa using List.all_eq_true.1 hsz _ (DataW.weights_mem_each (j := 0) rfl rfl n hn))
  obtain ⟨a1, rfl, rfl, rfl, w1⟩ := open_int Try.underlying3 (hval 1 3 v1 rfl rfl) h1
  obtain ⟨a2, rfl⟩ := open_u8 Try.underlying5 (hval 2 5 v2 rfl rfl) h2
  exact (counterTags_walk W z0 vp0 vs0 vd0 pw0 salt0 data0 rp0 lp0 rs0 ls0 rd0 ld0 a1 w1 a2).mono fun e W' ⟨he, hb⟩ => ⟨_, he, law_post (by kernel_rfl) rfl rfl rfl rfl hW' hb⟩
theorem counterTags_over : Rows.counterTagsRow.holds Try.pinned (OpenSpec.ofChange Rows.counterTagsSpec) :=
  OpenClaim.holds_of_wide 8 Try.f8 rfl rfl rfl rfl rfl rfl rfl ⟨rfl, rfl, rfl, rfl, rfl⟩ rfl rfl rfl rfl rfl (by kernel_rfl) Try.func8 (by kernel_rfl)
    (of_decide_eq_true (by kernel_rfl)) (by unfold Func.isWrapper; first | (rw [if_pos (by decide +kernel)]; kernel_rfl) | (rw [if_neg (by decide +kernel)]; exact ⟨rfl, rfl⟩))
    (fun os started H enc _ => counterTags_lifted os started H enc)
end Go.Proofs.Ytnbjpilanjngmaa.XS
namespace Go.Proofs.Ytnbjpilanjngmaa
theorem counterTags_holds : Rows.CounterTagsSaid := XS.counterTags_over
end Go.Proofs.Ytnbjpilanjngmaa
