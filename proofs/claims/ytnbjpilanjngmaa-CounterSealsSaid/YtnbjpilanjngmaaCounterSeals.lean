/- Any data is sealed as the document says, or refused: the law CounterSeals returns true for every case. -/
import Derived.Test.YtnbjpilanjngmaaLaw13b
import Derived.Test.YtnbjpilanjngmaaRow13
namespace Go.Proofs.Ytnbjpilanjngmaa.XS
open Go Go.RowKit Go.ChangeShapes Go.WideShapes Go.ChangeAt
set_option linter.unusedVariables false

theorem wf_i64 {n : Int} (h : (Lit.int .i64 n).wf = true) : -9223372036854775808 ≤ n ∧ n ≤ 9223372036854775807 := by
  simpa [Lit.wf, IntKind.min, IntKind.max, IntKind.signed, IntKind.bits] using h
/-- A case: how it is sealed, with what. -/
theorem open_caseZ {H : Type} {enc : TypeId × Value → H} {W : World} {r : Reach} {b0 : Nat} {v : Value} {d : DataW H} {ps : List MemPlace} (hval : Value.okWide Try.prog W r b0 29 v)
    (h : DataW.Trod enc Try.prog W 0 (fun _ => true) true 29 v d ps) (hlt : ∀ x ∈ ps, x.block < W.heap.size) (hz : ∀ n ∈ d.weights Try.prog 29, n ≤ reachBytes) :
    ∃ (z : Int) (vp vs vd : Value) (pw salt data : List UInt8), v = .agg #[.int .i64 z, vp, vs, vd] ∧ (Lit.int .i64 z).wf = true ∧ RdB W W.heap.size vp pw ∧ pw.length ≤ 140737488351232 ∧ RdB W W.heap.size vs salt ∧ salt.length ≤ 140737488351232 ∧ RdB W W.heap.size vd data ∧ data.length ≤ 140737488351232 := by
  obtain ⟨fuel, hf⟩ := h
  unfold Value.okWide at hval
  rw [Try.underlying29] at hval
  obtain ⟨cs, rfl, hsz, _⟩ := hval
  have h4 : cs.size = 4 := by rw [hsz]; kernel_rfl
  obtain ⟨c0, c1, c2, c3, rfl⟩ := Go.Joins.array4 h4
  obtain ⟨y0, y1, y2, y3, n, hx, _, t0, t1, t2, t3⟩ := Go.Joins.trod_struct4 Try.underlying29 hf
  have k3 : Try.prog.cellsOf 3 = 1 := by kernel_rfl
  have k22 : Try.prog.cellsOf 22 = 1 := by kernel_rfl
  simp only [k3, k22, Value.cells] at t0 t1 t2 t3
  simp at t0 t1 t2 t3
  simp only [Prod.mk.injEq] at hx
  obtain ⟨hx1, hx2⟩ := hx
  obtain ⟨z, hz0, _, hzw⟩ := DataW.trod_int Try.underlying3 t0
  simp at hz0
  subst hz0
  rw [hx1] at hz
  have hw : (DataW.weightsEach Try.prog [3, 22, 22, 22] [y0.1, y1.1, y2.1, y3.1]).all (· ≤ reachBytes) = true := by
    rw [List.all_eq_true]
    intro n hn
    refine decide_eq_true (hz n ?_)
    unfold DataW.weights
    rw [Try.underlying29]
    exact hn
  have b1 : Try.prog.bytesOf 5 = 1 := by kernel_rfl
  have sz : ∀ (j : Nat) (y : DataW H × List MemPlace), [3, 22, 22, 22][j]? = some 22 → [y0.1, y1.1, y2.1, y3.1][j]? = some y.1 → ∀ es sp, y.1 = .slice es sp → es.length + sp.length ≤ 140737488351232 := fun j y hj hy es sp he => by
    have := sized_slice (P := Try.prog) hw (j := j) hj (by rw [hy, he]) Try.underlying22
    rw [b1] at this; unfold reachBytes at this; omega
  obtain ⟨l1, r1, q1⟩ := open_bytesC Try.underlying22 Try.underlying5 (by kernel_rfl) t1 (fun x hx => hlt x (by rw [hx2]; simp [hx])) (sz 1 y1 rfl rfl)
  obtain ⟨l2, r2, q2⟩ := open_bytesC Try.underlying22 Try.underlying5 (by kernel_rfl) t2 (fun x hx => hlt x (by rw [hx2]; simp [hx])) (sz 2 y2 rfl rfl)
  obtain ⟨l3, r3, q3⟩ := open_bytesC Try.underlying22 Try.underlying5 (by kernel_rfl) t3 (fun x hx => hlt x (by rw [hx2]; simp [hx])) (sz 3 y3 rfl rfl)
  exact ⟨z, c1, c2, c3, l1, l2, l3, rfl, hzw, r1, q1, r2, q2, r3, q3⟩
set_option maxHeartbeats 4000000 in
set_option maxRecDepth 100000 in
theorem counterSeals_walk (w : World) (z : Int) (hz : -9223372036854775808 ≤ z ∧ z ≤ 9223372036854775807) (vp vs vd : Value) (pw salt data : List UInt8) (hp : RdB w w.heap.size vp pw) (hlp : pw.length ≤ 140737488351232) (hs : RdB w w.heap.size vs salt) (hls : salt.length ≤ 140737488351232) (hd : RdB w w.heap.size vd data) (hld : data.length ≤ 140737488351232) :
    Calls Try.prog 4 #[.agg #[.int .i64 z, vp, vs, vd]] w fun e w' => e = .returned (.bool true) ∧ Below w.heap.size w w' := by
  have HP := Lib.hid hp
  have HS := Lib.hid hs; clear hs
  have HD := Lib.hid hd
  obtain ⟨bp, cp, rfl, _, _, _, _⟩ := hp
  obtain ⟨bd, cd, rfl, _, _, _, _⟩ := hd
  have HZ := Lib.hid hz; clear hz
  have hsh := fun w => short_any w bp bd pw.length data.length cp cd (by omega) (by omega)
  go_enter Try.func4, Try.ntmps4
  have HB0 := Lib.hid ((Below.refl w.heap.size w).alloc (Nat.le_refl _) (Obj.cells #[Value.int .i64 z, .slice bp pw.length cp, vs, .slice bd data.length cd] 29))
  have HC0 := Lib.hid (Blk.new w #[Value.int .i64 z, .slice bp pw.length cp, vs, .slice bd data.length cd] 29)
  have hz0 : (w.alloc (Obj.cells #[Value.int .i64 z, .slice bp pw.length cp, vs, .slice bd data.length cd] 29)).heap.size = w.heap.size + 1 := by simp
  cases hB : shortB pw.length data.length
  case false =>
    rw [hB] at hsh
    have HSH := Lib.hid hsh; clear hsh hB
    go_wp2_with fail
    refine (HSH.out _).mono ?_
    rintro e w1 ⟨rfl, rfl⟩
    go_wp2_with fail
    refine (alive13_any _).mono ?_
    rintro e w3 ⟨rfl, hb3⟩
    have HB3 := Lib.hid (HB0.out.trans (hb3.mono HB0.out.size))
    clear hb3
    go_wp2
    go_ret
    exact ⟨rfl, HB3.out⟩
  case true =>
    obtain ⟨hs1, hs2⟩ := shortB_true hB
    rw [hB] at hsh
    have HSH := Lib.hid hsh; clear hsh hB
    obtain ⟨n, hn⟩ : ∃ n, szN z = n := ⟨_, rfl⟩
    by_cases hok : n ≠ 0 ∧ 2 * salt.length = n
    · obtain ⟨hn0, hsl⟩ := hok
      have HN := Lib.hid (And.intro hn (And.intro hn0 hsl)); clear hn hn0 hsl
      go_wp2_with fail
      refine (HSH.out _).mono ?_
      rintro e w1 ⟨rfl, rfl⟩
      go_wp2_with fail
      refine (seal_ok z pw salt data _ vs _ w.heap.size _ (by omega) (HP.out.below HB0.out (Nat.le_refl _)) (HS.out.below HB0.out (Nat.le_refl _)) (HD.out.below HB0.out (Nat.le_refl _)) n HN.out.1 HN.out.2.1 HN.out.2.2 (by omega) (by omega)).mono ?_
      rintro e w1 ⟨v, rfl, hf, hb1⟩
      have HB1 := Lib.hid (HB0.out.trans (hb1.mono HB0.out.size))
      have HC1 := Lib.hid (HC0.out.below hb1 HC0.out.lt)
      have hs1' := HB1.out.size
      have HF1 := Lib.hid hf.rd
      clear hb1 hf
      have c0 : w1.cell? ⟨w.heap.size, 0, none⟩ = some (.int .i64 z) := HC1.out.cell rfl
      have c1 : w1.cell? ⟨w.heap.size, 1, none⟩ = some (.slice bp pw.length cp) := HC1.out.cell rfl
      have c2 : w1.cell? ⟨w.heap.size, 2, none⟩ = some vs := HC1.out.cell rfl
      have c3 : w1.cell? ⟨w.heap.size, 3, none⟩ = some (.slice bd data.length cd) := HC1.out.cell rfl
      go_wp2_with fail
      refine (seal13_ok z HZ.out pw salt data _ vs _ w1 ((HP.out.below HB1.out (Nat.le_refl _)).mono hs1') ((HS.out.below HB1.out (Nat.le_refl _)).mono hs1') ((HD.out.below HB1.out (Nat.le_refl _)).mono hs1') n HN.out.1 HN.out.2.1 HN.out.2.2 (by omega) (by omega)).mono ?_
      rintro e w2 ⟨v2, rfl, ho2, hb2⟩
      have HB2 := Lib.hid (HB1.out.trans (hb2.mono hs1'))
      have HF2 := Lib.hid (HF1.out.below hb2 (Nat.le_refl _))
      have HR2 := Lib.hid ho2.rd
      have hs2' := HB2.out.size
      have hss2 := hb2.size
      clear hb2 ho2 c0 c1 c2 c3
      go_wp2_with fail
      refine (alive13_any _).mono ?_
      rintro e w3 ⟨rfl, hb3⟩
      have HB3 := Lib.hid (HB2.out.trans (hb3.mono hs2'))
      have k1 := run_str ((HF2.out.mono hss2).below hb3 (Nat.le_refl _))
      have k2 := run_str (HR2.out.below hb3 (Nat.le_refl _))
      clear hb3
      go_wp2
      go_ret
      exact ⟨rfl, HB3.out⟩
    · have hbad : szN z = 0 ∨ 2 * salt.length ≠ szN z := by
        rw [hn]
        rcases Nat.eq_zero_or_pos n with h | h
        · exact .inl h
        · exact .inr fun e => hok ⟨by omega, e⟩
      have HBAD := Lib.hid hbad; clear hbad hok hn
      go_wp2_with fail
      refine (HSH.out _).mono ?_
      rintro e w1 ⟨rfl, rfl⟩
      go_wp2_with fail
      refine (seal_bad z pw salt data _ vs _ w.heap.size _ (HS.out.below HB0.out (Nat.le_refl _)) HBAD.out).mono ?_
      rintro e w1 ⟨rfl, rfl⟩
      go_wp2_with fail
      refine (seal13_bad z HZ.out pw salt data _ vs _ w.heap.size _ (HS.out.below HB0.out (Nat.le_refl _)) (by omega) HBAD.out).mono ?_
      rintro e w1 ⟨rfl, rfl⟩
      go_wp2_with fail
      refine (alive13_any _).mono ?_
      rintro e w2 ⟨rfl, hb2⟩
      have HB2 := Lib.hid (HB0.out.trans (hb2.mono HB0.out.size)); clear hb2
      have k1 := run_str (w := w2) (B := 0) (v := .slice none 0 0) (l := []) ⟨none, 0, rfl, by simp, by omega, fun _ => rfl, fun h => by simp at h⟩
      go_wp2
      go_ret
      exact ⟨rfl, HB2.out⟩
set_option maxRecDepth 100000 in
theorem counterSeals_lifted (os : Os) (started : os.Started) (H : Type) (enc : TypeId × Value → H) :
    ReturnsInHanded {} Try.checked os 4 .any (Rows.counterSealsSpec.pre6 enc Try.prog Try.f4 Rows.counterSealsRow.domain false) (Rows.counterSealsSpec.post enc Try.prog Try.f4 false true false false) := by
  refine returnsInHanded_of_change_sized (C := Try.checked) own12 started (by kernel_rfl) Try.func4
    (ChangeSpec.witness6 (enc := enc) (C := Try.checked) false ⟨#[], #[.agg #[.int .i64 0, .slice none 0 0, .slice none 0 0, .slice none 0 0]], []⟩ 20 (by kernel_rfl) (by kernel_rfl) (by kernel_rfl) (by kernel_rfl)) ?_
  intro W base args ds gs before hval0 hW hcnd hsz _
  have hval : ∀ (j : Nat) t v, Try.f4.params[j]? = some t → args[j]? = some v → Value.okWide Try.prog W .any base t v := hval0
  have hW' := hW
  have hlt := hW.lt
  obtain ⟨p, q, hA0, hV, rfl, hfz, hnd⟩ := hW
  have hA : DataW.TrodAll enc Try.prog W 0 (fun _ => true) true Try.f4.params.toList args.toList ds p := hA0
  rw [Try.params4] at hA hval
  obtain ⟨v0, vs0, d0, ds0, p0, q0, hargs, rfl, rfl, h0, r0⟩ := trodAll_cons hA
  obtain ⟨rfl, rfl, rfl⟩ := trodAll_nil r0
  obtain rfl : args = #[v0] := by cases args; simp_all
  obtain ⟨rfl, rfl⟩ := trodVars_none hV
  obtain ⟨z0, vp0, vs0, vd0, pw0, salt0, data0, rfl, wz0, rp0, lp0, rs0, ls0, rd0, ld0⟩ := open_caseZ (hval 0 29 v0 rfl rfl) h0 (fun x hx => hlt x (by simp [hx])) (fun n hn => by simpa using List.all_eq_true.1 hsz _ (DataW.weights_mem_each (j := 0) rfl rfl n hn))
  exact (counterSeals_walk W z0 (wf_i64 wz0) vp0 vs0 vd0 pw0 salt0 data0 rp0 lp0 rs0 ls0 rd0 ld0).mono fun e W' ⟨he, hb⟩ => ⟨_, he, law_post (by kernel_rfl) rfl rfl rfl rfl hW' hb⟩
theorem counterSeals_over : Rows.counterSealsRow.holds Try.pinned (OpenSpec.ofChange Rows.counterSealsSpec) :=
  OpenClaim.holds_of_wide 4 Try.f4 rfl rfl rfl rfl rfl rfl rfl ⟨rfl, rfl, rfl, rfl, rfl⟩ rfl rfl rfl rfl rfl (by kernel_rfl) Try.func4 (by kernel_rfl)
    (of_decide_eq_true (by kernel_rfl)) (by unfold Func.isWrapper; first | (rw [if_pos (by decide +kernel)]; kernel_rfl) | (rw [if_neg (by decide +kernel)]; exact ⟨rfl, rfl⟩))
    (fun os started H enc _ => counterSeals_lifted os started H enc)
end Go.Proofs.Ytnbjpilanjngmaa.XS
namespace Go.Proofs.Ytnbjpilanjngmaa
theorem counterSeals_holds : Rows.CounterSealsSaid := XS.counterSeals_over
end Go.Proofs.Ytnbjpilanjngmaa
