/- The walks over the reference of layer 12, third part: the round keys. -/
import Derived.Test.YtnbjpilanjngmaaRef12B
import Derived.Test.YtnbjpilanjngmaaReg2
namespace Go.Proofs.Ytnbjpilanjngmaa.XS
open Go Go.RowKit
attribute [local go_sem] bits_xr

set_option maxHeartbeats 1000000 in
set_option maxRecDepth 100000 in
theorem rounds12_bad (w : World) (v vb : Value) (l : List UInt8) (hv : RdB w w.heap.size v l) (h16 : l.length ≠ 16) (h24 : l.length ≠ 24) (h32 : l.length ≠ 32) :
    Calls Try.prog 21 #[v, vb] w fun e w' => e = .returned (.tuple #[.slice none 0 0, .int .i64 120]) ∧ w = w' := by
  obtain ⟨base, cap, rfl, hc1, hc2, _, _⟩ := hv
  have b1 : ((l.length : Int) != 16) = true := by simp; omega
  have b2 : ((l.length : Int) != 24) = true := by simp; omega
  have b3 : ((l.length : Int) != 32) = true := by simp; omega
  clear h16 h24 h32
  go_enter Try.func21, Try.ntmps21
  go_wp2
  go_ret2
  exact ⟨rfl, rfl⟩

set_option maxHeartbeats 2000000 in
set_option maxRecDepth 100000 in
theorem rounds12_ok (w : World) (v vb : Value) (l : List UInt8) (n : Nat) (hv : RdB w w.heap.size v l) (hbx : RdB w w.heap.size vb bxs) (hl : l.length = 4 * n) (hn : n = 4 ∨ n = 6 ∨ n = 8) :
    Calls Try.prog 21 #[v, vb] w fun e w' => ∃ vr, e = .returned (.tuple #[vr, .int .i64 0]) ∧ RowsB w' w.heap.size 22 5 vr (n + 7) (fun r => mk 16 fun p => keyS n (fun i => l[i]?.getD 0) (16 * r + p)) ∧ Below w.heap.size w w' := by
  obtain ⟨base, cap, rfl, hc1, hc2, _, h3⟩ := hv
  obtain ⟨b, o, rfl, hblt, hcell⟩ := h3 (by omega)
  have HC := Lib.hid hcell; clear hcell h3
  obtain ⟨base', capb, rfl, hcb1, hcb2, _, h3⟩ := hbx
  obtain ⟨bb, ob, rfl, hbblt, hcellb⟩ := h3 (by unfold bxs; rw [mk_length]; omega)
  have HCB := Lib.hid hcellb; clear hcellb h3
  have b4 : (l.length : Int) / 4 = n := by omega
  have hl3 : l.length = 16 ∨ l.length = 24 ∨ l.length = 32 := by omega
  have HL := Lib.hid hl; clear hl
  have hbl : bxs.length = 256 := mk_length _ _
  rw [hbl] at hcb1 HCB ⊢
  have HBX : Hid (∀ x : UInt8, w.cell? ⟨bb, ob + x.toNat, none⟩ = some (.int .u8 ((bx x).toNat : Int))) := fun x => by
    rw [HCB.out _ x.toNat_lt]; unfold bxs; rw [mk_get x.toNat_lt, UInt8.ofNat_toNat]
  clear HCB hbl
  go_enter Try.func21, Try.ntmps21
  go_upto_region 2 with (fail)
  go_cut [33] (fun t w' => t = .bool false ∧ w = w')
  case first =>
    rcases hl3 with h | h | h
    · have b1 : ((l.length : Int) != 16) = false := by rw [h]; rfl
      clear h
      go_wp2
      all_goals (go_meet; case rel => exact ⟨rfl, rfl⟩)
    · have b1 : ((l.length : Int) != 16) = true := by rw [h]; rfl
      have b2 : ((l.length : Int) != 24) = false := by rw [h]; rfl
      clear h
      go_wp2
      all_goals (go_meet; case rel => exact ⟨rfl, rfl⟩)
    · have b1 : ((l.length : Int) != 16) = true := by rw [h]; rfl
      have b2 : ((l.length : Int) != 24) = true := by rw [h]; rfl
      have b3 : ((l.length : Int) != 32) = false := by rw [h]; rfl
      clear h
      go_wp2
      all_goals (go_meet; case rel => exact ⟨rfl, rfl⟩)
  case rest =>
    obtain ⟨rfl, rfl⟩ := hcut
    go_wp2
    go_loopw [7, 8] (fun vw i wr => ∃ k : Nat, k ≤ n ∧ i = .int .i64 k ∧ Below w.heap.size w wr ∧ RowsB wr w.heap.size 22 5 vw k (fun i => mk 4 (kw n (fun i => l[i]?.getD 0) i))) (fun _ i _ => n - (intOf i).toNat)
    case atStart => exact ⟨0, by omega, rfl, Below.refl _ _, RowsB.nil _ _ _ _ _⟩
    case round =>
      obtain ⟨k, hk, rfl, hbel, h1⟩ := hrel
      have HB := Lib.hid hbel; clear hbel
      have H1 := Lib.hid h1; clear h1
      by_cases hlt : k < n
      · have HQ : ∀ j, j < 4 → wr.cell? ⟨b, o + (4 * k + j), none⟩ = some (.int .u8 ((kw n (fun i => l[i]?.getD 0) k j).toNat : Int)) := fun j hj => by
          rw [HB.out.cell hblt, HC.out _ (by have := HL.out; omega), kw_low hlt]
        have q0 : wr.cell? ⟨b, o + 4 * k, none⟩ = _ := HQ 0 (by omega)
        have q1 := HQ 1 (by omega)
        have q2 := HQ 2 (by omega)
        have q3 := HQ 3 (by omega)
        clear HQ
        have hs1 : 4 * k + 3 < l.length := by have := HL.out; omega
        go_wp2
        refine wp_region_text1 23 (by kernel_rfl) (by kernel_rfl) (by kernel_rfl) (by kernel_rfl) (by kernel_rfl) (by kernel_rfl) (by kernel_rfl) fun K hK => ?_
        simp only [List.take_succ_cons, List.take_zero]
        go_wp2
        refine hK _ _ ⟨by rfl, ?_⟩
        clear hK K
        simp only [List.drop_succ_cons, List.drop_zero]
        have hlit := Lit4 (EO := 22) H1.out HB.out.size (kw n (fun i => l[i]?.getD 0) k) (.inr rfl)
        obtain ⟨r1, r2, r3, r4⟩ := hlit
        have R1 := Lib.hid r1; clear r1
        have R2 := Lib.hid r2; clear r2
        have R3 := Lib.hid r3; clear r3
        have R4 := Lib.hid r4; clear r4
        have hk47 : k ≤ 1000000000000 := by omega
        have hbase : w.heap.size ≤ wr.heap.size + 1 + 1 := by have := HB.out.size; omega
        go_wp2_with (refine wpList_appendRow rfl _ _ _ rfl w.heap.size 22 5 (by decide) (by kernel_rfl) 24 (by kernel_rfl) (by decide) _ k _ rfl R1.out (wr.heap.size + 1) 1 rfl _ R2.out R3.out hk47 (Nat.le_trans hbase (by simp)) ?_; intro vw' w1 hr1 hg1)
        apply_assumption
        go_wp2
        go_roundw
        case rel =>
          refine ⟨k + 1, by omega, by go_num, ?_, hr1⟩
          exact grown_below hg1 (HB.out.trans (R4.out.mono HB.out.size)) (Nat.le_trans hbase (by simp)) fun q hq => (H1.out.block q hq).1
        case measure => simp [intOf]; omega
      · obtain rfl : k = n := by omega
        have hk0 : 4 ≤ k := by omega
        go_wp2
        obtain ⟨wo, rfl⟩ : ∃ wo : World, wo = wr := ⟨_, rfl⟩
        go_loopw [7, 9] (fun vw vi wr => ∃ i : Nat, k ≤ i ∧ i ≤ 4 * (k + 7) ∧ vi = .int .i64 i ∧ Below w.heap.size w wr ∧ RowsB wr w.heap.size 22 5 vw i (fun i => mk 4 (kw k (fun i => l[i]?.getD 0) i))) (fun _ i _ => 4 * (k + 7) - (intOf i).toNat)
        case atStart => exact ⟨k, Nat.le_refl _, by omega, rfl, HB.out, H1.out⟩
        case round =>
          obtain ⟨i, hi1, hi2, rfl, hbel, h1⟩ := hrel
          clear HB H1
          obtain ⟨wq, rfl⟩ : ∃ wq : World, wq = wr := ⟨_, rfl⟩
          have HB := Lib.hid hbel; clear hbel
          have H1 := Lib.hid h1; clear h1
          by_cases hlt : i < 4 * (k + 7)
          · have hd : decide ((i : Int) < 4 * ((k : Int) + 7)) = true := decide_eq_true (by omega)
            obtain ⟨g, cp, rfl, hg1, hg2, hn1, hn2⟩ := H1.out.at (i := i - 1) (by omega)
            obtain ⟨u, hu, huo⟩ := H1.out.cell (i := i - 1) (by omega)
            obtain ⟨gu, cu, rfl, hgu1, hgu2, hcu1, hcu2⟩ := huo.form (by rw [mk_length]; omega)
            rw [mk_length] at hu hcu1
            have huo' : RdB (wq.alloc (.cells #[] 5)) wq.heap.size (.slice (some ⟨gu, 0, none⟩) 4 cu) (mk 4 (kw k (fun i => l[i]?.getD 0) (i - 1))) := by
              have h := huo.rd
              rw [mk_length] at h
              exact h.below ((Below.refl _ _).alloc (Nat.le_refl _) _) (Nat.le_refl _)
            have HU := Lib.hid huo'; clear huo huo'
            go_upto_region 13 with (refine wpList_appendR rfl _ _ _ rfl wq.heap.size 5 (by kernel_rfl) (by kernel_rfl) _ [] rfl (OwnB.lit _ _ _ (Nat.le_refl _)) _ _ rfl (mk 4 (kw k (fun i => l[i]?.getD 0) (i - 1))) HU.out (by rw [mk_length]; simp) (by simp) ?_; intro vt w1 ho1 hgr1)
            have hb1 : Below wq.heap.size wq w1 := grown_below hgr1 ((Below.refl _ _).alloc (Nat.le_refl _) _) (by simp) (fun q hq => Nat.le_of_eq (Option.some.inj hq))
            have HB1 := Lib.hid hb1; clear hb1
            obtain ⟨gt, ct, rfl, hgt1, hgt2, hct1, hct2⟩ := ho1.form (by rw [List.nil_append, mk_length]; omega)
            rw [List.nil_append] at ho1
            simp only [List.nil_append, mk_length] at ho1 hct1
            rw [List.nil_append, mk_length]
            have HT := Lib.hid ho1; clear ho1 hgr1
            clear hu HU
            have hcB : ∀ (x : UInt8) (w' : World), Below wq.heap.size wq w' → w'.cell? ⟨bb, ob + x.toNat, none⟩ = some (.int .u8 ((bx x).toNat : Int)) := fun x w' hb => by
              rw [hb.cell (by show bb < _; have := HB.out.size; omega), HB.out.cell hbblt, HBX.out]
            have HCX := Lib.hid hcB; clear hcB
            go_upto_if 84 with (fail)
            go_cut [10] (fun vt wc => ∃ gt ct, vt = .slice (some ⟨gt, 0, none⟩) 4 ct ∧ Below wq.heap.size wq wc ∧ OwnB wc wq.heap.size 5 (.slice (some ⟨gt, 0, none⟩) 4 ct) (mk 4 (tw k (fun i => l[i]?.getD 0) i)))
            case first =>
              have t4 : ∀ j, j < 4 → w1.cell? ⟨gt, j, none⟩ = some (.int .u8 ((kw k (fun i => l[i]?.getD 0) (i - 1) j).toNat : Int)) := fun j hj => by
                have h := HT.out
                have h2 := OwnB.cell (l := mk 4 (kw k (fun i => l[i]?.getD 0) (i - 1))) (g := gt) (cap := ct) (by rw [mk_length]; exact h) (j := j) (by rw [mk_length]; exact hj)
                rwa [mk_get hj] at h2
              have t0 := t4 0 (by omega)
              have t1 := t4 1 (by omega)
              have t2 := t4 2 (by omega)
              have t3 := t4 3 (by omega)
              clear t4
              have x0 := HCX.out (kw k (fun i => l[i]?.getD 0) (i - 1) 0) w1 HB1.out
              have x1 := HCX.out (kw k (fun i => l[i]?.getD 0) (i - 1) 1) w1 HB1.out
              have x2 := HCX.out (kw k (fun i => l[i]?.getD 0) (i - 1) 2) w1 HB1.out
              have x3 := HCX.out (kw k (fun i => l[i]?.getD 0) (i - 1) 3) w1 HB1.out
              have y0 := (kw k (fun i => l[i]?.getD 0) (i - 1) 0).toNat_lt
              have y1 := (kw k (fun i => l[i]?.getD 0) (i - 1) 1).toNat_lt
              have y2 := (kw k (fun i => l[i]?.getD 0) (i - 1) 2).toNat_lt
              have y3 := (kw k (fun i => l[i]?.getD 0) (i - 1) 3).toNat_lt
              by_cases h0 : i % k = 0
              · have hb0 : ((i : Int) % (k : Int) == 0) = true := by
                  rw [beq_iff_eq, ← Int.natCast_emod, h0]; rfl
                obtain ⟨N, hN⟩ : ∃ N, N = i / k := ⟨_, rfl⟩
                have hdv : (i : Int) / (k : Int) = (N : Int) := by rw [hN, Int.natCast_ediv]
                have hN1 : 1 ≤ N := by rw [hN, Nat.le_div_iff_mul_le (by omega)]; omega
                have hN2 : N ≤ i := by rw [hN]; exact Nat.div_le_self _ _
                have HN := Lib.hid hN; clear hN
                simp only [hb0]
                go_wp2
                go_loop [11, 12] (fun vc vq => ∃ q : Nat, q + 1 ≤ N ∧ vq = .int .i64 ((q : Int) + 1) ∧ vc = .int .u8 ((rcon q).toNat : Int)) (fun _ vq => N - (intOf vq).toNat)
                case atStart => exact ⟨0, by omega, rfl, rfl⟩
                case round =>
                  obtain ⟨q, hq, rfl, rfl⟩ := hrel
                  by_cases hq2 : q + 1 < N
                  · have hd2 : decide ((q : Int) + 1 < (N : Int)) = true := decide_eq_true (by omega)
                    go_wp2_with (go_at_call 37; refine (times12_int _ _ (by decide) _).mono ?_; rintro e w1 ⟨rfl, rfl⟩)
                    go_round
                    case rel => exact ⟨q + 1, by omega, by go_num, by rw [tms_two]; rfl⟩
                    case measure => simp [intOf]; omega
                  · have hd2 : decide ((q : Int) + 1 < (N : Int)) = false := decide_eq_false (by omega)
                    have hqN : i / k - 1 = q := by rw [← HN.out]; omega
                    have hw4 := tw4_first (key := fun i => l[i]?.getD 0) h0
                    rw [hqN] at hw4
                    have HW := Lib.hid hw4; clear hw4 hqN
                    go_wp2
                    refine wp_region_text 26 (by kernel_rfl) (by kernel_rfl) (by kernel_rfl) (by kernel_rfl) fun K hK => ?_
                    simp only [List.take_succ_cons, List.take_zero]
                    go_wp2
                    refine hK _ _ ⟨by rfl, ?_⟩
                    clear hK K
                    simp only [List.drop_succ_cons, List.drop_zero]
                    go_wp2
                    go_meet
                    case rel =>
                      refine ⟨_, _, rfl, (HB1.out.alloc HB1.out.size _).drew, ?_⟩
                      have h := OwnB.made w1.drew wq.heap.size 5 (mk 4 (tw k (fun i => l[i]?.getD 0) i)) HB1.out.size (by rw [mk_length]; omega)
                      rw [HW.out] at h ⊢
                      exact h
              · have hb0 : ((i : Int) % (k : Int) == 0) = false := by
                  rw [beq_eq_false_iff_ne]; intro e; apply h0; have : ((i % k : Nat) : Int) = 0 := by rw [Int.natCast_emod]; exact e
                  omega
                by_cases h1 : k = 8 ∧ i % 8 = 4
                · have HW := Lib.hid (tw4_mid (key := fun i => l[i]?.getD 0) h0 h1)
                  have hb1 : ((k : Int) == 8) = true := by rw [h1.1]; rfl
                  have hb2 : ((i : Int) % 8 == 4) = true := by rw [beq_iff_eq]; omega
                  clear h0 h1
                  go_wp2
                  refine wp_region_text 24 (by kernel_rfl) (by kernel_rfl) (by kernel_rfl) (by kernel_rfl) fun K hK => ?_
                  simp only [List.take_succ_cons, List.take_zero]
                  go_wp2
                  refine hK _ _ ⟨by rfl, ?_⟩
                  clear hK K
                  simp only [List.drop_succ_cons, List.drop_zero]
                  go_wp2
                  go_meet
                  case rel =>
                    refine ⟨_, _, rfl, (HB1.out.alloc HB1.out.size _).drew, ?_⟩
                    have h := OwnB.made w1.drew wq.heap.size 5 (mk 4 (tw k (fun i => l[i]?.getD 0) i)) HB1.out.size (by rw [mk_length]; omega)
                    rw [HW.out] at h ⊢
                    exact h
                · have hend := tw4_else (key := fun i => l[i]?.getD 0) h0 h1
                  have HE := Lib.hid hend; clear hend
                  by_cases h8 : k = 8
                  · have hb1 : ((k : Int) == 8) = true := by rw [h8]; rfl
                    have hb2 : ((i : Int) % 8 == 4) = false := by rw [beq_eq_false_iff_ne]; omega
                    clear h0 h1 h8
                    go_wp2
                    go_meet
                    case rel => exact ⟨_, _, rfl, HB1.out, by rw [HE.out]; exact HT.out⟩
                  · have hb1 : ((k : Int) == 8) = false := by rw [beq_eq_false_iff_ne]; omega
                    clear h0 h1 h8
                    go_wp2
                    go_meet
                    case rel => exact ⟨_, _, rfl, HB1.out, by rw [HE.out]; exact HT.out⟩
            case rest =>
              obtain ⟨gt, ct, rfl, hbc, hoc⟩ := hcut
              clear HB1 HT
              obtain ⟨g1, c1, heq, hgr1, hgr2, hc1', hc2'⟩ := hoc.form (by rw [mk_length]; omega)
              rw [mk_length] at heq hc1'
              simp only [Value.slice.injEq, Option.some.injEq, Addr.mk.injEq, true_and, and_true] at heq
              obtain ⟨rfl, rfl⟩ := heq
              have HBC := Lib.hid hbc; clear hbc
              have HOC := Lib.hid hoc; clear hoc
              have hiu : i < 4 * (k + 7) := hlt
              obtain ⟨u, hu, huo⟩ := H1.out.cell (i := i - k) (by omega)
              obtain ⟨gv, cv, rfl, hgv1, hgv2, hcv1, hcv2⟩ := huo.form (by rw [mk_length]; omega)
              rw [mk_length] at hu hcv1
              have hub : ∀ j, j < 4 → wq.cell? ⟨gv, j, none⟩ = some (.int .u8 ((kw k (fun i => l[i]?.getD 0) (i - k) j).toNat : Int)) := fun j hj => by
                have h2 := OwnB.cell (l := mk 4 (kw k (fun i => l[i]?.getD 0) (i - k))) (g := gv) (cap := cv) huo (j := j) (by rw [mk_length]; exact hj)
                rwa [mk_get hj] at h2
              have HU := Lib.hid hub; clear hub huo
              have HUC := Lib.hid hu; clear hu
              go_wp2
              obtain ⟨wp, rfl⟩ : ∃ wp : World, wp = wc := ⟨_, rfl⟩
              go_loopw [13] (fun vx wk => ∃ x : Nat, x ≤ 4 ∧ vx = .int .i64 x ∧ Below wq.heap.size wq wk ∧ OwnB wk wq.heap.size 5 (.slice (some ⟨gt, 0, none⟩) 4 ct) (mk 4 fun p => if p < x then kw k (fun i => l[i]?.getD 0) i p else tw k (fun i => l[i]?.getD 0) i p)) (fun x _ => 4 - (intOf x).toNat)
              case atStart => exact ⟨0, by omega, rfl, HBC.out, by rw [mk_congr (g := tw k (fun i => l[i]?.getD 0) i) fun i _ => if_neg (by omega)]; exact HOC.out⟩
              case round =>
                obtain ⟨x, hx, rfl, hbk, hok⟩ := hrel
                have HBK := Lib.hid hbk; clear hbk
                have HOK := Lib.hid hok; clear hok
                clear HBC HOC
                by_cases hltx : x < 4
                · have hc0 : wr.cell? ⟨gt, x, none⟩ = some (.int .u8 ((tw k (fun i => l[i]?.getD 0) i x).toNat : Int)) := by
                    have h2 := OwnB.cell (l := mk 4 fun p => if p < x then kw k (fun i => l[i]?.getD 0) i p else tw k (fun i => l[i]?.getD 0) i p) (g := gt) (cap := ct) (by rw [mk_length]; exact HOK.out) (j := x) (by rw [mk_length]; exact hltx)
                    rwa [mk_get hltx, if_neg (by omega)] at h2
                  have hf0 : wr.frozen? ⟨gt, x, none⟩ = false := OwnB.free (l := mk 4 fun p => if p < x then kw k (fun i => l[i]?.getD 0) i p else tw k (fun i => l[i]?.getD 0) i p) (by rw [mk_length]; exact HOK.out) x
                  have hc1 : wr.cell? ⟨g, i - k, none⟩ = some (.slice (some ⟨gv, 0, none⟩) 4 cv) := (HBK.out.cell (p := ⟨g, i - k, none⟩) hg2).trans HUC.out
                  have hc2 : wr.cell? ⟨gv, x, none⟩ = some (.int .u8 ((kw k (fun i => l[i]?.getD 0) (i - k) x).toNat : Int)) := (HBK.out.cell (p := ⟨gv, x, none⟩) hgv2).trans (HU.out x hltx)
                  go_wp2
                  refine wp_region_text 17 (by kernel_rfl) (by kernel_rfl) (by kernel_rfl) (by kernel_rfl) fun K hK => ?_
                  simp only [List.take_succ_cons, List.take_zero]
                  go_wp2
                  refine hK _ _ ⟨by rfl, ?_⟩
                  clear hK K
                  simp only [List.drop_succ_cons, List.drop_zero]
                  go_wp2
                  go_roundw
                  case rel =>
                    refine ⟨x + 1, by omega, by go_num, (HBK.out.setCell hgr1 _).drew, ?_⟩
                    have h := OwnB.stored (l := mk 4 fun p => if p < x then kw k (fun i => l[i]?.getD 0) i p else tw k (fun i => l[i]?.getD 0) i p) (by rw [mk_length]; exact HOK.out) x (kw k (fun i => l[i]?.getD 0) i x)
                    rw [mk_step, mk_length] at h
                    have e : xr (tw k (fun i => l[i]?.getD 0) i x) (kw k (fun i => l[i]?.getD 0) (i - k) x) = kw k (fun i => l[i]?.getD 0) i x := by
                      rw [kw_high (key := fun i => l[i]?.getD 0) (i := i) (by omega) (by omega)]; unfold xr; exact UInt8.xor_comm _ _
                    rw [e]
                    exact h.drew
                  case measure => simp [intOf]; omega
                · obtain rfl : x = 4 := by omega
                  have ho4 : OwnB wr w.heap.size 5 (.slice (some ⟨gt, 0, none⟩) 4 ct) (mk 4 (kw k (fun i => l[i]?.getD 0) i)) := by
                    have h := HOK.out
                    rw [mk_congr (g := kw k (fun i => l[i]?.getD 0) i) fun p hp => if_pos hp] at h
                    exact h.mono HB.out.size
                  have hu4 := Lib.hid (ho4.alloc (.cells #[Value.slice (some ⟨gt, 0, none⟩) 4 ct] 22)); clear ho4
                  have hcell := Lib.hid ((Blk.new wr #[Value.slice (some ⟨gt, 0, none⟩) 4 ct] 22).cell (k := 0) (v := Value.slice (some ⟨gt, 0, none⟩) 4 ct) rfl)
                  have hbk2 := HBK.out.alloc HBK.out.size (.cells #[Value.slice (some ⟨gt, 0, none⟩) 4 ct] 22)
                  have hrow := Lib.hid (H1.out.below hbk2 (Nat.le_refl _))
                  have HB2 := Lib.hid (HB.out.trans (hbk2.mono HB.out.size)); clear hbk2
                  have hk47 : i ≤ 1000000000000 := by omega
                  go_wp2_with (refine wpList_appendRow rfl _ _ _ rfl w.heap.size 22 5 (by decide) (by kernel_rfl) 24 (by kernel_rfl) (by decide) _ i _ rfl hrow.out wr.heap.size 1 rfl _ hcell.out hu4.out hk47 HB2.out.size ?_; intro vw' w1 hr1 hgr1)
                  go_roundw
                  case rel => exact ⟨i + 1, by omega, by omega, by go_num, grown_below hgr1 HB2.out HB2.out.size fun q hq => (H1.out.block q hq).1, hr1⟩
                  case measure => simp [intOf]; omega
          · have HIE := Lib.hid (by omega : i = 4 * (k + 7))
            have hi0 : 0 < i := by omega
            have hd : decide ((i : Int) < 4 * ((k : Int) + 7)) = false := decide_eq_false (by omega)
            obtain ⟨g, cp, rfl, hg1, hg2, hn1, hn2⟩ := H1.out.at (i := 0) (by omega)
            go_wp2
            have HRD : Hid (∀ (i : Nat) (w' : World), i < 4 * (k + 7) → Below wq.heap.size wq w' → ∃ gv cv, w'.cell? ⟨g, i, none⟩ = some (.slice (some ⟨gv, 0, none⟩) 4 cv) ∧ RdB w' wq.heap.size (.slice (some ⟨gv, 0, none⟩) 4 cv) (mk 4 (kw k (fun i => l[i]?.getD 0) i))) := fun i w' hi hb => by
              obtain ⟨u, hu, huo⟩ := H1.out.cell (i := i) (by have := HIE.out; omega)
              obtain ⟨gv, cv, rfl, hgv1, hgv2, hcv1, hcv2⟩ := huo.form (by rw [mk_length]; omega)
              have hr := huo.rd.below hb (Nat.le_refl _)
              rw [mk_length] at hu hr
              exact ⟨gv, cv, (hb.cell (p := ⟨g, i, none⟩) hg2).trans hu, hr⟩
            clear H1
            go_loopw [14, 15] (fun vo vr wr => ∃ r : Nat, r ≤ k + 7 ∧ vr = .int .i64 r ∧ Below wq.heap.size wq wr ∧ RowsB wr wq.heap.size 22 5 vo r (fun r => mk 16 fun p => keyS k (fun i => l[i]?.getD 0) (16 * r + p))) (fun _ r _ => (k + 7) - (intOf r).toNat)
            case atStart => exact ⟨0, by omega, rfl, Below.refl _ _, RowsB.nil _ _ _ _ _⟩
            case round =>
              obtain ⟨r, hr, rfl, hbr, hor⟩ := hrel
              have HBR := Lib.hid hbr; clear hbr
              have HOR := Lib.hid hor; clear hor
              by_cases hlt : r < k + 7
              · have hd2 : decide ((r : Int) < (k : Int) + 7) = true := decide_eq_true (by omega)
                go_wp2
                obtain ⟨wp, rfl⟩ : ∃ wp : World, wp = wr := ⟨_, rfl⟩
                go_loopw [16, 17] (fun vx vq wr => ∃ q : Nat, q ≤ 4 ∧ vq = .int .i64 q ∧ Below wp.heap.size wp wr ∧ OwnB wr wp.heap.size 5 vx (mk (4 * q) fun p => keyS k (fun i => l[i]?.getD 0) (16 * r + p))) (fun _ q _ => 4 - (intOf q).toNat)
                case atStart => exact ⟨0, by omega, rfl, Below.refl _ _, OwnB.nil _ _ _⟩
                case round =>
                  obtain ⟨q, hq, rfl, hbq, hoq⟩ := hrel
                  have HBQ := Lib.hid hbq; clear hbq
                  have HOQ := Lib.hid hoq; clear hoq
                  by_cases hltq : q < 4
                  · obtain ⟨gv, cv, hcv, hrv⟩ := HRD.out (4 * r + q) wr (by omega) (HBR.out.trans (HBQ.out.mono HBR.out.size))
                    have HRV := Lib.hid hrv; clear hrv
                    have hfit : (mk (4 * q) fun p => keyS k (fun i => l[i]?.getD 0) (16 * r + p)).length + (mk 4 (kw k (fun i => l[i]?.getD 0) (4 * r + q))).length ≤ 140737488355328 := by rw [mk_length, mk_length]; omega
                    have hlt3 : 4 * r + q < i := by have := HIE.out; omega
                    go_wp2_with (refine wpList_appendR rfl _ _ _ rfl wp.heap.size 5 (by kernel_rfl) (by kernel_rfl) _ _ rfl HOQ.out _ _ rfl (mk 4 (kw k (fun i => l[i]?.getD 0) (4 * r + q))) HRV.out hfit HBQ.out.size ?_; intro vx' w1 ho1 hgr1)
                    go_roundw
                    case rel =>
                      refine ⟨q + 1, by omega, by go_num, grown_below hgr1 HBQ.out HBQ.out.size fun z hz => (HOQ.out.block z hz).1, ?_⟩
                      rw [show 4 * (q + 1) = 4 * q + 4 by omega, mk_append, mk_congr (f := fun j => keyS k (fun i => l[i]?.getD 0) (16 * r + (4 * q + j))) (g := kw k (fun i => l[i]?.getD 0) (4 * r + q)) fun j hj => by
                        rw [show 16 * r + (4 * q + j) = 4 * (4 * r + q) + j by omega, keyS_at hj]]
                      exact ho1
                    case measure => simp [intOf]; omega
                  · obtain rfl : q = 4 := by omega
                    rw [show 4 * 4 = 16 from rfl] at HOQ
                    obtain ⟨gx, cx, hux, hgx1, hgx2, hcx1, hcx2⟩ := HOQ.out.form (by rw [mk_length]; omega)
                    rw [mk_length] at hux
                    subst hux
                    have hu4 := Lib.hid ((HOQ.out.mono HBR.out.size).alloc (.cells #[Value.slice (some ⟨gx, 0, none⟩) 16 cx] 22))
                    have hcell := Lib.hid ((Blk.new wr #[Value.slice (some ⟨gx, 0, none⟩) 16 cx] 22).cell (k := 0) (v := Value.slice (some ⟨gx, 0, none⟩) 16 cx) rfl)
                    have hbk2 := HBQ.out.alloc HBQ.out.size (.cells #[Value.slice (some ⟨gx, 0, none⟩) 16 cx] 22)
                    have hrow := Lib.hid (HOR.out.below hbk2 (Nat.le_refl _))
                    have HB2 := Lib.hid (HBR.out.trans (hbk2.mono HBR.out.size)); clear hbk2
                    have hk47 : r ≤ 1000000000000 := by omega
                    go_wp2_with (refine wpList_appendRow rfl _ _ _ rfl wq.heap.size 22 5 (by decide) (by kernel_rfl) 24 (by kernel_rfl) (by decide) _ r _ rfl hrow.out wr.heap.size 1 rfl _ hcell.out hu4.out hk47 HB2.out.size ?_; intro vo' w1 hr1 hgr1)
                    go_roundw
                    case rel => exact ⟨r + 1, by omega, by go_num, grown_below hgr1 HB2.out HB2.out.size fun z hz => (HOR.out.block z hz).1, hr1⟩
                    case measure => simp [intOf]; omega
              · obtain rfl : r = k + 7 := by omega
                have hd2 : decide (((k + 7 : Nat) : Int) < (k : Int) + 7) = false := decide_eq_false (by omega)
                go_wp2
                go_ret2
                exact ⟨_, rfl, HOR.out.mono HB.out.size, HB.out.trans (HBR.out.mono HB.out.size)⟩
end Go.Proofs.Ytnbjpilanjngmaa.XS
