/- The beginning of data is encrypted as it is with more behind it: the law CounterBegins returns true for every key, all data and every number. -/
import Derived.Test.YtnbjpilanjngmaaLaw13a
import Derived.Test.YtnbjpilanjngmaaRow
namespace Go.Proofs.Ytnbjpilanjngmaa.XS
open Go Go.RowKit Go.ChangeShapes Go.WideShapes Go.ChangeAt
set_option linter.unusedVariables false

theorem RdB.take {w : World} {B n cap L : Nat} {bd : Option Addr} {l : List UInt8} (h : RdB w B (.slice bd L cap) l) (hL : L = l.length) (hn : n ≤ L) : RdB w B (.slice bd n cap) (l.take n) := by
  obtain ⟨base, cap', he, h1, h2, hno, h3⟩ := h
  simp only [Value.slice.injEq] at he
  obtain ⟨rfl, _, rfl⟩ := he
  have hl : (l.take n).length = n := by rw [List.length_take]; omega
  refine ⟨bd, cap, by rw [hl], by rw [hl]; omega, h2, hno, fun hp => ?_⟩
  rw [hl] at hp
  obtain ⟨b, o, hb, hlt, hc⟩ := h3 (by omega)
  refine ⟨b, o, hb, hlt, fun i hi => ?_⟩
  rw [hl] at hi
  rw [List.getElem?_take, if_pos hi]
  exact hc i (by omega)
theorem strm_take (n m : Nat) (key data : List UInt8) (hm : m ≤ data.length) : mk m (strm n key (data.take m)) = mk m (strm n key data) := by
  refine mk_congr fun i hi => ?_
  unfold strm byteAt
  rw [List.getElem?_take, if_pos hi]

set_option maxHeartbeats 2000000 in
set_option maxRecDepth 100000 in
theorem counterBegins_walk (w : World) (vk : Value) (key : List UInt8) (hk : RdB w w.heap.size vk key) (_ : key.length ≤ 140737488351232) (vd : Value) (data : List UInt8) (hd : RdB w w.heap.size vd data) (hld : data.length ≤ 140737488351232) (z : Int) (hwz : (Lit.int .i64 z).wf = true) :
    Calls Try.prog 9 #[vk, vd, .int .i64 z] w fun e w' => e = .returned (.bool true) ∧ Below w.heap.size w w' := by
  have HK := Lib.hid hk; clear hk
  have HD := Lib.hid hd
  obtain ⟨bd, cd, rfl, hd1, hd2, _, _⟩ := hd
  by_cases hkl : key.length = 16 ∨ key.length = 24 ∨ key.length = 32
  · obtain ⟨n, hn, hl⟩ : ∃ n, (n = 4 ∨ n = 6 ∨ n = 8) ∧ key.length = 4 * n := by
      rcases hkl with h | h | h
      · exact ⟨4, .inl rfl, h⟩
      · exact ⟨6, .inr (.inl rfl), h⟩
      · exact ⟨8, .inr (.inr rfl), h⟩
    have HN := Lib.hid hn; clear hn
    have HL := Lib.hid hl; clear hl hkl
    by_cases hz : 0 ≤ z ∧ z ≤ (data.length : Int)
    · obtain ⟨m, rfl⟩ : ∃ m : Nat, z = (m : Int) := ⟨z.toNat, by omega⟩
      have hm : m ≤ data.length := by omega
      have z1 : decide ((m : Int) < 0) = false := decide_eq_false (by omega)
      have z2 : decide ((data.length : Int) < (m : Int)) = false := decide_eq_false (by omega)
      have z3 : (m : Int) ≤ (cd : Int) := by omega
      have z4 : (m : Int) ≤ (data.length : Int) := by omega
      clear hz
      go_enter Try.func9, Try.ntmps9
      go_wp2_with fail
      refine (stream_ok _ _ _ key data n w.heap.size (Nat.le_refl _) HK.out HD.out HL.out HN.out (by omega)).mono ?_
      rintro e w1 ⟨ob, hob1, rfl, hob, hb1⟩
      have HB1 := Lib.hid hb1
      have hs1 := hb1.size
      have hrx := RdB.ofBlk hob (by rw [mk_length]; omega)
      rw [mk_length] at hrx
      have HRX := Lib.hid hrx
      have HDT := Lib.hid (RdB.take (HD.out.below hb1 (Nat.le_refl _)) rfl hm)
      clear hb1 hob hrx
      go_wp2_with fail
      refine (stream_ok _ _ _ key (data.take m) n w1.heap.size (Nat.le_refl _) ((HK.out.below HB1.out (Nat.le_refl _)).mono hs1) (HDT.out.mono hs1) HL.out HN.out (by rw [List.length_take]; omega)).mono ?_
      have hlt : (data.take m).length = m := by rw [List.length_take]; omega
      rw [hlt, strm_take n m key data hm]
      rintro e w2 ⟨ob2, hob2, rfl, hob2', hb2⟩
      have HB2 := Lib.hid (HB1.out.trans (hb2.mono hs1))
      have HRX2 := Lib.hid (HRX.out.below hb2 (Nat.le_refl _))
      have HOB2 := Lib.hid hob2'
      have hs2 := hb2.size
      clear hb2 hob2' hlt
      have hx := RdB.ofBlk HOB2.out (by rw [mk_length]; omega)
      rw [mk_length] at hx
      have hy := RdB.take (HRX2.out.mono hs2) (mk_length _ _).symm hm
      rw [mk_take _ _ _ hm] at hy
      have HX := Lib.hid hx
      have HY := Lib.hid hy
      clear hx hy
      go_wp2
      refine wp_region_cls 14 (fun w' => Below w2.heap.size w2 w') (by kernel_rfl) (by kernel_rfl) (by kernel_rfl) (by rfl) (Below.refl _ _).drew ?_
      simp only [List.take_succ_cons, List.take_zero]
      refine quiet_call rfl 11 #[] (fun w' => by kernel_rfl) (.bool true) (fun w' hC => (alive13_any w').mono fun e w2 h => ⟨h.1, hC.trans (h.2.mono hC.size)⟩) ?_
      refine quiet_segN 6 (by kernel_rfl) (by kernel_rfl) (by rfl) ⟨_, Below.refl _ _⟩ ?_
      apply Exists.intro
      refine ⟨fun w' hC K hK => ?seg, ?next⟩
      case seg =>
        clear hC
        simp only [List.take_succ_cons, List.take_zero]
        go_wp2
        exact hK _ _ ⟨by rfl, rfl⟩
      case next =>
        simp only [List.drop_succ_cons, List.drop_zero]
        refine quiet_op rfl (.string ⟨(mk m (strm n key data)).toArray⟩) (fun w' hC => by
          have h := run_str (HX.out.below hC (Nat.le_refl _))
          simp only [execOp, Sem.run_bind]
          exact (congrArg (fun r => Result.andThen r _) h).trans rfl) ?_
        refine quiet_segN 3 (by kernel_rfl) (by kernel_rfl) (by rfl) ⟨_, Below.refl _ _⟩ ?_
        apply Exists.intro
        refine ⟨fun w' hC K hK => ?seg2, ?next2⟩
        case seg2 =>
          clear hC
          simp only [List.take_succ_cons, List.take_zero]
          go_wp2
          exact hK _ _ ⟨by rfl, rfl⟩
        case next2 =>
          simp only [List.drop_succ_cons, List.drop_zero]
          refine quiet_op rfl (.string ⟨(mk m (strm n key data)).toArray⟩) (fun w' hC => by
            have h := run_str (HY.out.below hC (Nat.le_refl _))
            simp only [execOp, Sem.run_bind]
            exact (congrArg (fun r => Result.andThen r _) h).trans rfl) ?_
          refine quiet_segN 2 (by kernel_rfl) (by kernel_rfl) (by rfl) ⟨_, Below.refl _ _⟩ ?_
          apply Exists.intro
          refine ⟨fun w' hC K hK => ?seg3, ?next3⟩
          case seg3 =>
            clear hC
            simp only [List.take_succ_cons, List.take_zero]
            go_wp2
            exact hK _ _ ⟨by rfl, rfl⟩
          case next3 =>
            simp only [List.drop_succ_cons, List.drop_zero]
            refine wpQuiet_nil ?_
            intro w' hC
            have HC := Lib.hid hC; clear hC
            go_wp2
            go_ret
            exact ⟨rfl, HB2.out.trans (HC.out.mono (by omega))⟩
    · go_enter Try.func9, Try.ntmps9
      go_wp2_with fail
      refine (stream_ok _ _ _ key data n w.heap.size (Nat.le_refl _) HK.out HD.out HL.out HN.out (by omega)).mono ?_
      rintro e w1 ⟨ob, hob1, rfl, hob, hb1⟩
      have HB1 := Lib.hid hb1
      clear hb1 hob
      by_cases hz1 : z < 0
      · have z1 : decide (z < 0) = true := decide_eq_true hz1
        clear hz
        go_wp2_with fail
        refine (alive13_any _).mono ?_
        rintro e w2 ⟨rfl, hb2⟩
        have HB2 := Lib.hid (HB1.out.trans (hb2.mono HB1.out.size)); clear hb2
        go_wp2
        go_ret
        exact ⟨rfl, HB2.out⟩
      · have z1 : decide (z < 0) = false := decide_eq_false hz1
        have z2 : decide ((data.length : Int) < z) = true := decide_eq_true (by omega)
        clear hz
        go_wp2_with fail
        refine (alive13_any _).mono ?_
        rintro e w2 ⟨rfl, hb2⟩
        have HB2 := Lib.hid (HB1.out.trans (hb2.mono HB1.out.size)); clear hb2
        go_wp2
        go_ret
        exact ⟨rfl, HB2.out⟩
  · have h16 : key.length ≠ 16 := fun h => hkl (.inl h)
    have h24 : key.length ≠ 24 := fun h => hkl (.inr (.inl h))
    have h32 : key.length ≠ 32 := fun h => hkl (.inr (.inr h))
    have HN := Lib.hid (And.intro h16 (And.intro h24 h32))
    clear h16 h24 h32 hkl
    go_enter Try.func9, Try.ntmps9
    go_wp2_with fail
    refine (stream_bad _ _ _ key w.heap.size (Nat.le_refl _) HK.out HN.out.1 HN.out.2.1 HN.out.2.2).mono ?_
    rintro e w1 ⟨rfl, rfl⟩
    go_wp2_with fail
    refine (alive13_any _).mono ?_
    rintro e w2 ⟨rfl, hb2⟩
    have HB2 := Lib.hid hb2; clear hb2
    go_wp2
    go_ret
    exact ⟨rfl, HB2.out⟩
set_option maxRecDepth 100000 in
theorem counterBegins_lifted (os : Os) (started : os.Started) (H : Type) (enc : TypeId × Value → H) :
    ReturnsInHanded {} Try.checked os 9 .any (Rows.counterBeginsSpec.pre6 enc Try.prog Try.f9 Rows.counterBeginsRow.domain false) (Rows.counterBeginsSpec.post enc Try.prog Try.f9 false true false false) := by
  refine returnsInHanded_of_change_sized (C := Try.checked) own12 started (by kernel_rfl) Try.func9
    (ChangeSpec.witness6 (enc := enc) (C := Try.checked) false ⟨#[], #[.slice none 0 0, .slice none 0 0, .int .i64 0], []⟩ 20 (by kernel_rfl) (by kernel_rfl) (by kernel_rfl) (by kernel_rfl)) ?_
  intro W base args ds gs before hval0 hW hcnd hsz _
  have hval : ∀ (j : Nat) t v, Try.f9.params[j]? = some t → args[j]? = some v → Value.okWide Try.prog W .any base t v := hval0
  have hW' := hW
  have hlt := hW.lt
  obtain ⟨p, q, hA0, hV, rfl, hfz, hnd⟩ := hW
  have hA : DataW.TrodAll enc Try.prog W 0 (fun _ => true) true Try.f9.params.toList args.toList ds p := hA0
  rw [Try.params9] at hA hval
  obtain ⟨v0, vs0, d0, ds0, p0, q0, hargs, rfl, rfl, h0, r0⟩ := trodAll_cons hA
  obtain ⟨v1, vs1, d1, ds1, p1, q1, rfl, rfl, rfl, h1, r1⟩ := trodAll_cons r0
  obtain ⟨v2, vs2, d2, ds2, p2, q2, rfl, rfl, rfl, h2, r2⟩ := trodAll_cons r1
  obtain ⟨rfl, rfl, rfl⟩ := trodAll_nil r2
  obtain rfl : args = #[v0, v1, v2] := by cases args; simp_all
  obtain ⟨rfl, rfl⟩ := trodVars_none hV
  obtain ⟨a0, ha0, hl0⟩ := open_bytes Try.underlying22 Try.underlying5 (by kernel_rfl) (hval 0 22 v0 rfl rfl) h0 (fun x hx => hlt x (by simp [hx]))
    (fun es sp h => by have := sized_slice (P := Try.prog) hsz (j := 0) (t := 22) rfl (by rw [h]; rfl) Try.underlying22; rw [show Try.prog.bytesOf 5 = 1 by kernel_rfl] at this; unfold reachBytes at this; omega)
  obtain ⟨a1, ha1, hl1⟩ := open_bytes Try.underlying22 Try.underlying5 (by kernel_rfl) (hval 1 22 v1 rfl rfl) h1 (fun x hx => hlt x (by simp [hx]))
    (fun es sp h => by have := sized_slice (P := Try.prog) hsz (j := 1) (t := 22) rfl (by rw [h]; rfl) Try.underlying22; rw [show Try.prog.bytesOf 5 = 1 by kernel_rfl] at this; unfold reachBytes at this; omega)
  obtain ⟨a2, rfl, rfl, rfl, w2⟩ := open_int Try.underlying3 (hval 2 3 v2 rfl rfl) h2
  exact (counterBegins_walk W v0 a0 ha0 hl0 v1 a1 ha1 hl1 a2 w2).mono fun e W' ⟨he, hb⟩ => ⟨_, he, law_post (by kernel_rfl) rfl rfl rfl rfl hW' hb⟩
theorem counterBegins_over : Rows.counterBeginsRow.holds Try.pinned (OpenSpec.ofChange Rows.counterBeginsSpec) :=
  OpenClaim.holds_of_wide 9 Try.f9 rfl rfl rfl rfl rfl rfl rfl ⟨rfl, rfl, rfl, rfl, rfl⟩ rfl rfl rfl rfl rfl (by kernel_rfl) Try.func9 (by kernel_rfl)
    (of_decide_eq_true (by kernel_rfl)) (by unfold Func.isWrapper; first | (rw [if_pos (by decide +kernel)]; kernel_rfl) | (rw [if_neg (by decide +kernel)]; exact ⟨rfl, rfl⟩))
    (fun os started H enc _ => counterBegins_lifted os started H enc)
end Go.Proofs.Ytnbjpilanjngmaa.XS
namespace Go.Proofs.Ytnbjpilanjngmaa
theorem counterBegins_holds : Rows.CounterBeginsSaid := XS.counterBegins_over
end Go.Proofs.Ytnbjpilanjngmaa
