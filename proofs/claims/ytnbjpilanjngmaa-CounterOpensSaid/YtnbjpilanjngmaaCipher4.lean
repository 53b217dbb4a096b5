/- The walks over package cipher, fourth part. -/
import Derived.Test.YtnbjpilanjngmaaCipher3
namespace Go.Proofs.Ytnbjpilanjngmaa.XS
open Go Go.RowKit
attribute [local go_sem] bits_xr

theorem mk4 (f : Nat → UInt8) : bytesV (mk 4 f) = #[.int .u8 ((f 0).toNat : Int), .int .u8 ((f 1).toNat : Int), .int .u8 ((f 2).toNat : Int), .int .u8 ((f 3).toNat : Int)] := rfl

set_option maxHeartbeats 1000000 in
set_option maxRecDepth 100000 in
theorem boxed_any (w : World) (f : Nat → UInt8) :
    Calls Try.prog 31 #[.agg (bytesV (mk 4 f))] w fun e w' => e = .returned (.agg (bytesV (mk 4 fun i => bx (f i)))) ∧ Below w.heap.size w w' := by
  go_enter Try.func31, Try.ntmps31
  go_wp2
  have H1 := Lib.hid (((Blk.new w (bytesV (mk 4 f)) 56).alloc (Obj.cells #[Value.int IntKind.u8 0, Value.int IntKind.u8 0, Value.int IntKind.u8 0, Value.int IntKind.u8 0] 56)))
  have H2 := Lib.hid (Blk.new' (w := w.alloc (Obj.cells (bytesV (mk 4 f)) 56)) (b := w.heap.size + 1) (by simp) #[Value.int IntKind.u8 0, Value.int IntKind.u8 0, Value.int IntKind.u8 0, Value.int IntKind.u8 0] 56)
  have HB := Lib.hid (((Below.refl w.heap.size w).alloc (Nat.le_refl _) (Obj.cells (bytesV (mk 4 f)) 56)).alloc (by simp) (Obj.cells #[Value.int IntKind.u8 0, Value.int IntKind.u8 0, Value.int IntKind.u8 0, Value.int IntKind.u8 0] 56))
  generalize (w.alloc _).alloc _ = wr at *
  have hsz := H2.out.lt
  refine wp_region_cls 16 (fun w' => Below wr.heap.size wr w') (by kernel_rfl) (by kernel_rfl) (by kernel_rfl) (by rfl) (Below.refl _ _).drew ?_
  simp only [List.take_succ_cons, List.take_zero]
  refine quiet_call rfl 45 #[] (fun w' => by kernel_rfl) (.agg boxV) (fun w' hC => (box_any w').mono fun e w2 h => ⟨h.1, hC.trans (h.2.mono hC.size)⟩) ?_
  refine quiet_segN 3 (by kernel_rfl) (by kernel_rfl) (by rfl) ⟨_, Below.refl _ _⟩ ?_
  apply Exists.intro
  refine ⟨fun w' hC K hK => ?seg, ?next⟩
  case seg =>
    have c1 : w'.cell? ⟨w.heap.size, 0, none⟩ = some (.int .u8 ((f 0).toNat : Int)) := (hC.cell (p := ⟨w.heap.size, 0, none⟩) (by show w.heap.size < wr.heap.size; omega)).trans (H1.out.cell (by rw [mk4]; rfl))
    have hx := (f 0).toNat_lt
    have hbox := box_at (f 0)
    have HC := Lib.hid hC; clear hC
    simp only [List.take_succ_cons, List.take_zero]
    go_wp2_with (refine wpList_indexA rfl _ _ _ rfl boxV rfl _ ((f 0).toNat : Int) rfl 256 5 (by kernel_rfl) (by kernel_rfl) (by omega) (by omega) _ (by simpa using hbox) ?_)
    exact hK _ _ ⟨by rfl, rfl⟩
  case next =>
    simp only [List.drop_succ_cons, List.drop_zero]
    refine quiet_call rfl 45 #[] (fun w' => by kernel_rfl) (.agg boxV) (fun w' hC => (box_any w').mono fun e w2 h => ⟨h.1, hC.trans (h.2.mono hC.size)⟩) ?_
    refine quiet_segN 3 (by kernel_rfl) (by kernel_rfl) (by rfl) ⟨_, Below.refl _ _⟩ ?_
    apply Exists.intro
    refine ⟨fun w' hC K hK => ?seg, ?next⟩
    case seg =>
      have c1 : w'.cell? ⟨w.heap.size, 1, none⟩ = some (.int .u8 ((f 1).toNat : Int)) := (hC.cell (p := ⟨w.heap.size, 1, none⟩) (by show w.heap.size < wr.heap.size; omega)).trans (H1.out.cell (by rw [mk4]; rfl))
      have hx := (f 1).toNat_lt
      have hbox := box_at (f 1)
      have HC := Lib.hid hC; clear hC
      simp only [List.take_succ_cons, List.take_zero]
      go_wp2_with (refine wpList_indexA rfl _ _ _ rfl boxV rfl _ ((f 1).toNat : Int) rfl 256 5 (by kernel_rfl) (by kernel_rfl) (by omega) (by omega) _ (by simpa using hbox) ?_)
      exact hK _ _ ⟨by rfl, rfl⟩
    case next =>
      simp only [List.drop_succ_cons, List.drop_zero]
      refine quiet_call rfl 45 #[] (fun w' => by kernel_rfl) (.agg boxV) (fun w' hC => (box_any w').mono fun e w2 h => ⟨h.1, hC.trans (h.2.mono hC.size)⟩) ?_
      refine quiet_segN 3 (by kernel_rfl) (by kernel_rfl) (by rfl) ⟨_, Below.refl _ _⟩ ?_
      apply Exists.intro
      refine ⟨fun w' hC K hK => ?seg, ?next⟩
      case seg =>
        have c1 : w'.cell? ⟨w.heap.size, 2, none⟩ = some (.int .u8 ((f 2).toNat : Int)) := (hC.cell (p := ⟨w.heap.size, 2, none⟩) (by show w.heap.size < wr.heap.size; omega)).trans (H1.out.cell (by rw [mk4]; rfl))
        have hx := (f 2).toNat_lt
        have hbox := box_at (f 2)
        have HC := Lib.hid hC; clear hC
        simp only [List.take_succ_cons, List.take_zero]
        go_wp2_with (refine wpList_indexA rfl _ _ _ rfl boxV rfl _ ((f 2).toNat : Int) rfl 256 5 (by kernel_rfl) (by kernel_rfl) (by omega) (by omega) _ (by simpa using hbox) ?_)
        exact hK _ _ ⟨by rfl, rfl⟩
      case next =>
        simp only [List.drop_succ_cons, List.drop_zero]
        refine quiet_call rfl 45 #[] (fun w' => by kernel_rfl) (.agg boxV) (fun w' hC => (box_any w').mono fun e w2 h => ⟨h.1, hC.trans (h.2.mono hC.size)⟩) ?_
        refine quiet_segN 3 (by kernel_rfl) (by kernel_rfl) (by rfl) ⟨_, Below.refl _ _⟩ ?_
        apply Exists.intro
        refine ⟨fun w' hC K hK => ?seg, ?next⟩
        case seg =>
          have c1 : w'.cell? ⟨w.heap.size, 3, none⟩ = some (.int .u8 ((f 3).toNat : Int)) := (hC.cell (p := ⟨w.heap.size, 3, none⟩) (by show w.heap.size < wr.heap.size; omega)).trans (H1.out.cell (by rw [mk4]; rfl))
          have hx := (f 3).toNat_lt
          have hbox := box_at (f 3)
          have HC := Lib.hid hC; clear hC
          simp only [List.take_succ_cons, List.take_zero]
          go_wp2_with (refine wpList_indexA rfl _ _ _ rfl boxV rfl _ ((f 3).toNat : Int) rfl 256 5 (by kernel_rfl) (by kernel_rfl) (by omega) (by omega) _ (by simpa using hbox) ?_)
          exact hK _ _ ⟨by rfl, rfl⟩
        case next =>
          simp only [List.drop_succ_cons, List.drop_zero]
          refine wpQuiet_nil ?_
          intro w' hC
          have HC := Lib.hid hC; clear hC
          try simp only [List.drop_succ_cons, List.drop_zero]
          have H2' := Lib.hid (H2.out.below HC.out hsz)
          go_wp2_with (first
            | (refine wpList_buildC rfl _ _ rfl (bytesV (mk 4 fun i => bx (f i))) (by kernel_rfl) ?_)
            | (refine wpList_storeR rfl _ _ _ rfl (w.heap.size + 1) (bytesV (mk 4 fun i => bx (f i))) _ rfl rfl _ H2'.out 4 (by kernel_rfl) (by rw [bytesV_size, mk_length]) rfl (bytesV_one _) ?_))
          exact ret_row rfl (w.heap.size + 1) _ _ rfl (H2'.out.row _) (by kernel_rfl) 4 (by kernel_rfl) (by rw [bytesV_size, mk_length]) rfl ⟨rfl, Below.row (HB.out.trans (HC.out.mono (by omega))) (by omega) _⟩
end Go.Proofs.Ytnbjpilanjngmaa.XS
