/- The walks over package digest, third part: bytes written. -/
import Derived.Test.YtnbjpilanjngmaaDig2
namespace Go.Proofs.Ytnbjpilanjngmaa.XS
open Go Go.RowKit

def sLen : Value → Nat
  | .slice _ n _ => n
  | _ => 0
set_option maxHeartbeats 1000000 in
set_option maxRecDepth 100000 in
theorem dwrite_any (hb : Nat) (m l : List UInt8) (v : Value) (cs : Array Value) (w : World) (h : Blk w hb cs 68) (hrep : RepH m cs) (hv : RdX w hb v l) (hlen : m.length + l.length ≤ 281474976710656) :
    Calls Try.prog 50 #[.pointer (some ⟨hb, 0, none⟩), v] w fun e w' => e = .returned (.tuple #[]) ∧ (∃ cs', Blk w' hb cs' 68 ∧ RepH (m ++ l) cs') ∧ w.grownBy w' (some hb) := by
  obtain ⟨wt, hwt, rfl⟩ := hrep
  obtain ⟨base, cap, rfl, hc1, hc2, hn, h3⟩ := hv
  have c70 : w.cell? ⟨hb, 70, none⟩ = some (.int .u64 (m.length : Int)) := h.cell (by rw [hV_get]; rfl)
  have f70 := h.free 70
  have hlt := h.lt
  have H := Lib.hid h; clear h
  go_enter Try.func50, Try.ntmps50
  go_wp2
  go_loopw [1] (fun vb wr => ∃ (c : Nat) (wt' : Nat → UInt8), c ≤ l.length ∧ RdX wr hb vb (l.drop c) ∧ Waits (m ++ l.take c) wt' ∧ w.grownBy wr (some hb) ∧ Blk wr hb (hV (st (m ++ l.take c)) wt' ((m.length + c) % 64) (m.length + l.length)) 68) (fun vb _ => sLen vb)
  case atStart =>
    refine ⟨0, wt, by omega, ?_, by rw [List.take_zero, List.append_nil]; exact hwt, G.setCell (G.refl _ _) _ _ _, ?_⟩
    · exact RdX.grown ⟨base, cap, rfl, hc1, hc2, hn, h3⟩ (G.setCell (G.refl _ _) _ _ _)
    · have h := H.out.set 70 (.int .u64 ((m.length + l.length : Nat) : Int))
      rw [hV_setAll] at h
      rw [List.take_zero, List.append_nil]
      exact h
  case round =>
    clear c70 f70 H hwt hn h3
    obtain ⟨c, wt', hc, hrd, hwt', hg, hblk⟩ := hrel
    have HG := Lib.hid hg; clear hg
    have HW := Lib.hid hwt'; clear hwt'
    obtain ⟨base', cap', rfl, hc1', hc2', hn', h3'⟩ := hrd
    obtain ⟨L, hL⟩ : ∃ L, L = (l.drop c).length := ⟨_, rfl⟩
    rw [← hL] at hc1' h3' ⊢
    rw [List.length_drop] at hL
    have HL := Lib.hid hL; clear hL
    by_cases hpos : 0 < L
    · obtain ⟨b, o, rfl, hbne, hblt, hcell⟩ := h3' hpos
      obtain ⟨k, hk⟩ : ∃ k, k = (m.length + c) % 64 := ⟨_, rfl⟩
      have hk64 : k < 64 := by omega
      have hal : (k : Int) ≤ 64 := by omega
      have hnk : ¬ 64 = k := by omega
      rw [← hk] at hblk
      have c69 : wr.cell? ⟨hb, 69, none⟩ = some (.int .i64 (k : Int)) := hblk.cell (by rw [hV_get]; rfl)
      have HB := Lib.hid hblk; clear hblk h3'
      have HC := Lib.hid hcell; clear hcell hn'
      have HK := Lib.hid hk; clear hk
      obtain ⟨n, hn⟩ : ∃ n, n = Nat.min L (64 - k) := ⟨_, rfl⟩
      have hn1 : n ≤ L := by rw [hn]; exact Nat.min_le_left _ _
      have hn2 : n ≤ 64 - k := by rw [hn]; exact Nat.min_le_right _ _
      have hn3 : n = L ∨ n = 64 - k := by rw [hn]; simp only [Nat.min_def]; split <;> omega
      have HN := Lib.hid hn; clear hn
      go_wp2
      refine wp_region_text 9 (by kernel_rfl) (by kernel_rfl) (by kernel_rfl) (by kernel_rfl) fun K hK => ?_
      simp only [List.take_succ_cons, List.take_zero]
      go_wp2
      refine hK _ _ ⟨by rfl, ?_⟩
      clear hK K
      simp only [List.drop_succ_cons, List.drop_zero]
      have hnL : (n : Int) ≤ (L : Int) := by omega
      have hcap : cap' = n ∨ ¬ cap' = n := by omega
      have hncap : (n : Int) ≤ (cap' : Int) := by omega
      obtain ⟨X, hX⟩ : ∃ X, X = (l.drop c).take n := ⟨_, rfl⟩
      have hXl : X.length = n := by rw [hX, List.length_take, List.length_drop, ← HL.out]; omega
      have hsrc : ∀ j, j < n → wr.drew.cell? ⟨b, o + j, none⟩ = some (.int .u8 ((byteAt X j).toNat : Int)) := fun j hj => by
        have h := HC.out j (by omega)
        unfold byteAt
        rw [hX, List.getElem?_take, if_pos hj]
        exact h
      have HX := Lib.hid (And.intro hX hXl); clear hX hXl
      have hcur : ∀ p : Nat, (hV (st (m ++ l.take c)) (wtPut wt' k (byteAt X) n) k (m.length + l.length))[p]? = if 5 + k ≤ p ∧ p < 5 + k + n then some (.int .u8 ((byteAt X (p - (5 + k))).toNat : Int)) else (hV (st (m ++ l.take c)) wt' k (m.length + l.length))[p]? := fun p => by
        rw [hV_get, hV_get]
        by_cases h5 : p < 5
        · rw [if_pos h5, if_pos h5, if_neg (show ¬ (5 + k ≤ p ∧ p < 5 + k + n) by omega)]
        · rw [if_neg h5, if_neg h5]
          by_cases h69 : p < 69
          · rw [if_pos h69, if_pos h69]
            unfold wtPut
            by_cases hin : k ≤ p - 5 ∧ p - 5 < k + n
            · rw [if_pos hin, if_pos (by omega), show p - 5 - k = p - (5 + k) by omega]
            · rw [if_neg hin, if_neg (by omega)]
          · rw [if_neg h69, if_neg h69, if_neg (show ¬ (5 + k ≤ p ∧ p < 5 + k + n) by omega)]
      have HSRC := Lib.hid hsrc; clear hsrc
      have HCUR := Lib.hid hcur; clear hcur
      go_upto_region 3 with (refine wpList_copyB rfl _ _ 22 22 rfl 5 (by kernel_rfl) (by kernel_rfl) hb (5 + k) (64 - k) (64 - k) b o L cap' rfl rfl _ 68 (Blk.drew HB.out) n HN.out _ HSRC.out (by rw [hV_size]; omega) _ HCUR.out ?_; intro w1 ho1 hb1)
      have HG1 := Lib.hid (G.only (G.drew HG.out) ho1)
      have HO := Lib.hid ho1; clear ho1
      have c69' : w1.cell? ⟨hb, 69, none⟩ = some (.int .i64 (k : Int)) := hb1.cell (by rw [hV_get]; rfl)
      have f69 := hb1.free 69
      have HB1 := Lib.hid hb1; clear hb1
      have hb2 : Blk (w1.setCell ⟨hb, 69, none⟩ (.int .i64 ((k : Int) + (n : Int)))) hb (hV (st (m ++ l.take c)) (wtPut wt' k (byteAt X) n) (k + n) (m.length + l.length)) 68 := by
        have h := HB1.out.set 69 (.int .i64 ((k + n : Nat) : Int))
        rw [hV_setMany] at h
        exact h
      have HB2 := Lib.hid hb2; clear hb2
      go_upto_if 43 with (fail)
      have HM : Hid ((m ++ l.take c).length % 64 = k ∧ m ++ l.take (c + n) = (m ++ l.take c) ++ X ∧ (m ++ l.take c).length = m.length + c) := by
        have e : (m ++ l.take c).length = m.length + c := by rw [List.length_append, List.length_take]; omega
        exact ⟨by rw [e, HK.out], by rw [HX.out.1, List.append_assoc, List.take_add], e⟩
      have hrdx : ∀ w' : World, w1.grownBy w' (some hb) → RdX w' hb (.slice (if cap' = n then some ⟨b, o, none⟩ else some ⟨b, o + n, none⟩) (L - n) (cap' - n)) (l.drop (c + n)) := fun w' hg' => by
        have h := RdX.tail (w := w') (g := hb) (b := b) (o := o) (L := L) (cap := cap') (n := n) (x := l.drop c) (by rw [List.length_drop, ← HL.out]) hn1 hc1' hc2' hbne (Nat.lt_of_lt_of_le hblt (Nat.le_trans (by rw [HO.out.size]; exact Nat.le_refl _) hg'.size)) (fun i hi => hg'.cell ((HO.out.cell (p := ⟨b, o + i, none⟩) hbne).trans (HC.out i hi)) (fun e => hbne (Option.some.inj e)))
        rw [List.drop_drop] at h
        exact h
      generalize (if cap' = n then some (⟨b, o, none⟩ : Addr) else some ⟨b, o + n, none⟩) = ad at *
      have HRD := Lib.hid hrdx; clear hrdx
      by_cases hfull : k + n = 64
      · have hbq : (((k : Int) + (n : Int)) == 64) = true := by rw [beq_iff_eq]; omega
        simp only [hbq]
        go_wp2_with fail
        refine (dblock_any hb _ _ _ _ _ HB2.out).mono ?_
        rintro e w2 ⟨rfl, hb3, hg2⟩
        have HG2 := Lib.hid (G.trans (G.setCell (G.refl w1 (some hb)) 69 none (.int .i64 ((k : Int) + (n : Int)))) hg2)
        have HB3 := Lib.hid hb3; clear hb3 hg2
        go_wp2
        go_roundw
        case rel =>
          refine ⟨c + n, wtPut wt' k (byteAt X) n, by have := HL.out; omega, HRD.out _ HG2.out, ?_, G.trans HG1.out HG2.out, ?_⟩
          · intro j hj
            rw [HM.out.2.1, List.length_append, HM.out.2.2, HX.out.2] at hj
            have := HK.out
            omega
          · have h := full_cmpr HW.out (x := X) (by rw [HM.out.1, HX.out.2]; exact hfull)
            rw [HM.out.1, HX.out.2, ← HM.out.2.1] at h
            rw [← h, show (m.length + (c + n)) % 64 = 0 by have := HK.out; omega]
            exact HB3.out
        case measure => simp [sLen]; omega
      · have hbq : (((k : Int) + (n : Int)) == 64) = false := by rw [beq_eq_false_iff_ne]; omega
        simp only [hbq]
        have HG2 := Lib.hid (G.setCell (G.refl w1 (some hb)) 69 none (.int .i64 ((k : Int) + (n : Int))))
        go_wp2
        go_roundw
        case rel =>
          refine ⟨c + n, wtPut wt' k (byteAt X) n, by have := HL.out; omega, HRD.out _ HG2.out, ?_, G.trans HG1.out HG2.out, ?_⟩
          · have h := waits_short HW.out (x := X) (by rw [HM.out.1, HX.out.2]; omega)
            rw [HM.out.1, HX.out.2, ← HM.out.2.1] at h
            exact h
          · have h := st_short (m := m ++ l.take c) (x := X) (by rw [HM.out.1, HX.out.2]; omega)
            rw [← HM.out.2.1] at h
            rw [h, show (m.length + (c + n)) % 64 = k + n by have := HK.out; omega]
            exact HB2.out
        case measure => simp [sLen]; omega
    · have h0 : c = l.length := by have := HL.out; omega
      have e : m ++ l.take c = m ++ l := by rw [h0, List.take_length]
      rw [e] at hblk
      have hwt2 := HW.out
      rw [e] at hwt2
      have HB := Lib.hid (And.intro hwt2 hblk); clear hblk h3' hwt2 e
      have hl0 : L = 0 := by omega
      have H0 := Lib.hid h0; clear h0
      go_wp2
      refine bodyPost_end (results_none rfl _ _ _) rfl ⟨rfl, ⟨_, HB.out.2, wt', HB.out.1, ?_⟩, HG.out⟩
      rw [List.length_append, H0.out]
end Go.Proofs.Ytnbjpilanjngmaa.XS
