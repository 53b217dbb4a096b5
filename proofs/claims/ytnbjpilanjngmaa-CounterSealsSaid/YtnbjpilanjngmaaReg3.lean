/- Regions that draw their order, begin with a read of a variable that may as well come later, and call in their head. -/
import Derived.Test.YtnbjpilanjngmaaReg2
namespace Go.Proofs.Ytnbjpilanjngmaa.XS
open Go

section
variable {P : Program} {ops : Array Oper}
theorem wpAny_cls {Q : Exit → Act → World → Prop} {a : Act} {w : World} {l : List Oper} (n : Nat) (C : World → Prop) (hB : clsB l.toArray n = true)
    (ho : once l.toArray (l.take n) = true) (hsz : ((l.take n).all fun o => match o.dst with | some d => decide (d < a.tmps.size) | none => false) = true) (hC : C w)
    (h : wpQuiet P l.toArray C (fun a' => ∀ w', C w' → wpList P l.toArray Q (l.drop n) a' w') (l.take n) a) : wpAny P .any l.toArray Q l.length (Array.replicate l.length false) a w := by
  simp only [clsB, Bool.and_eq_true] at hB
  obtain ⟨⟨⟨⟨hsel, hn⟩, htail⟩, hdeps⟩, hseq⟩ := hB
  have hnl : n ≤ l.length := by simpa using hn
  have hselS := Region.noSelect_spec hsel
  have hat : ∀ {i : Nat} {o : Oper}, i < n → l[i]? = some o → o ∈ l.take n := fun {i o} hi hio =>
    List.mem_of_getElem? (i := i) (by rw [List.getElem?_take]; simp [hi, hio])
  obtain ⟨z, hT, hall, hkp, hzs, hzd⟩ := quiet_all (ops := l.toArray) (C := C) (l.take n) a (fun o hm => by
    obtain ⟨i, hi⟩ := List.mem_iff_getElem?.1 (List.mem_of_mem_take hm)
    exact fun cs b => hselS i o cs b (by simpa using hi)) ho hsz h
  have main : ∀ (m : Nat) (listed : Array Bool) (x : Act) (w' : World), C w' → HeadInv .any l.toArray n listed → left n listed = m →
      x.tmps.size = z.tmps.size → x.defers = z.defers →
      (∀ t, (∀ i, i < n → ((l.toArray[i]?).bind (·.dst)) = some t → listed.getD i false = true) → x.tmps[t]? = z.tmps[t]?) →
      wpAny P .any l.toArray Q (m + (l.toArray.size - n)) listed x w' := by
    intro m
    induction m with
    | zero =>
      intro listed x w' hw' inv hm0 hxs hxd hmix
      have hl0 := left_zero hm0
      have hx : x = z := by
        have : x.tmps = z.tmps := by
          apply Array.ext_getElem?
          intro t
          exact hmix t fun i hi _ => hl0 i hi
        cases x; cases z; simp_all
      have hlist : listed = Array.replicate n true ++ Array.replicate (l.toArray.size - n) false := by
        apply Array.ext_getElem?
        intro i
        have hls := inv.size
        by_cases hin : i < n
        · have h1 := hl0 i hin
          have hi2 : i < listed.size := by rw [hls]; simp; omega
          rw [Array.getElem?_append_left (by simpa using hin)]
          simp [hi2] at h1
          simp [hi2, h1, hin]
        · by_cases hi2 : i < l.toArray.size
          · have h1 := inv.tail i (by omega) hi2
            have hi3 : i < listed.size := by rw [hls]; exact hi2
            rw [Array.getElem?_append_right (by simp; omega)]
            simp [hi3] at h1
            have hi4 : i - n < l.length - n := by simp at hi2; omega
            simp [hi3, h1, hi4]
          · rw [Array.getElem?_eq_none (by omega), Array.getElem?_eq_none (by simp; simp at hi2; omega)]
      rw [hx, hlist, Nat.zero_add]
      have := wpAny_of_seq (P := P) (md := .any) (ops := l.toArray) (Q' := Q) (l.drop n) n (Array.replicate n true ++ Array.replicate (l.toArray.size - n) false) z w' (fun j => by simp) (by simpa using hseq) (hT w' hw')
      simpa using this
    | succ m ih =>
      intro listed x w' hw' inv hm1 hxs hxd hmix
      have hex : ∃ i, i < n ∧ listed.getD i false = false := by
        apply Classical.byContradiction
        intro hno
        have : left n listed = 0 := by
          unfold left
          rw [List.countP_eq_zero]
          intro i hi
          have : i < n := by simpa using hi
          cases hq : listed.getD i false with
          | true => simp
          | false => exact absurd ⟨i, this, hq⟩ hno
        omega
      have hready : Region.ready .any l.toArray listed ≠ [] := by
        obtain ⟨i, hi, hil⟩ := hex
        have hleast : ∃ k, k < n ∧ listed.getD k false = false ∧ ∀ j, j < k → listed.getD j false = true := by
          induction i using Nat.strongRecOn with
          | _ i ihi =>
            by_cases hh : ∃ j, j < i ∧ listed.getD j false = false
            · obtain ⟨j, hj, hjl⟩ := hh
              exact ihi j hj (by omega) hjl
            · refine ⟨i, hi, hil, fun j hj => ?_⟩
              cases hq : listed.getD j false with
              | true => rfl
              | false => exact absurd ⟨j, hj, hq⟩ hh
        obtain ⟨k, hk, hkl, hlow⟩ := hleast
        have hd := List.all_eq_true.1 hdeps k (by simpa using hk)
        have hkin : k < l.length := by omega
        have hko : l.toArray[k]? = some l[k] := by simp [hkin]
        rw [hko] at hd
        simp only [Bool.and_eq_true] at hd
        have : k ∈ Region.ready .any l.toArray listed := mem_ready.2 ⟨getD_in (by rw [inv.size]; simpa using hkin) hkl, l[k], hko, fun e he hb => by
          have := Array.all_eq_true_iff_forall_mem.1 hd.1 e he
          simp only [hb, Bool.not_true, Bool.false_or, decide_eq_true_eq] at this
          exact hlow _ this⟩
        intro h0; rw [h0] at this; cases this
      rw [show m + 1 + (l.toArray.size - n) = (m + (l.toArray.size - n)) + 1 by omega]
      refine ⟨fun h0 => absurd h0 hready, fun j hj => ?_⟩
      obtain ⟨hjun, oj, hoj, hjall⟩ := mem_ready.1 hj
      have hjs : j < l.toArray.size := (Array.getElem?_eq_some_iff.1 hoj).1
      have hjn : j < n := by
        rcases Nat.lt_or_ge j n with h' | h'
        · exact h'
        · exfalso
          rcases Bool.or_eq_true _ _ ▸ htail with h1 | h1
          · simp at h1 hjs; omega
          · simp only [Bool.and_eq_true] at h1
            obtain ⟨i, hi, hil⟩ := hex
            exact tail_waits h1.1 h1.2 (by omega) inv _ i rfl hi (getD_in (by rw [inv.size]; omega) hil) j h' hj
      have hjl : l[j]? = some oj := by simpa using hoj
      obtain ⟨d, hd, hdz, hy⟩ := hall oj (hat hjn hjl)
      have hag : ∀ t ∈ oj.looksAt l.toArray, x.tmps[t]? = z.tmps[t]? := by
        intro t ht
        refine hmix t fun i hi hit => ?_
        have hdp := List.all_eq_true.1 hdeps j (by simpa using hjn)
        rw [hoj] at hdp
        simp only [Bool.and_eq_true] at hdp
        have h1 := List.all_eq_true.1 (List.all_eq_true.1 hdp.2 t ht) i (by simpa using hi)
        simp only [hit, beq_self_eq_true, Bool.not_true, Bool.false_or] at h1
        obtain ⟨e, he, hb⟩ := Array.any_eq_true'.1 h1
        simp only [Bool.and_eq_true, beq_iff_eq] at hb
        rw [← hb.2]; exact hjall e he hb.1
      have hyx : YieldsIn P l.toArray C oj (z.tmps.getD d undef) x := hy.of_same (execOp_congr oj (fun cs b => hselS j oj cs b hoj) (same_eval hag)) (same_wanted hag)
      refine wpOp_of_qOp hw' (K := fun x' => x' = x.put oj.dst (z.tmps.getD d undef)) (fun x' w'' hw'' hx' => ?_) (hyx.qOp hoj rfl)
      subst hx'
      have hjun' : listed.getD j false = false := getD_both hjun
      have hjsz : j < listed.size := by rw [inv.size]; exact hjs
      refine ih _ _ w'' hw'' (inv.set hj hjn) (by have := left_set n listed j hjn hjsz hjun'; omega) (by rw [put_size, hxs]) (by rw [← hxd]; cases oj.dst <;> rfl) ?_
      intro t ht
      by_cases htd : t = d
      · subst htd
        rw [hd, put_same _ _ _ (by rw [hxs]; exact hdz)]
        simp [hdz]
      · rw [hd, put_ne _ _ _ _ htd]
        refine hmix t fun i hi hit => ?_
        have h1 := ht i hi hit
        by_cases hij : i = j
        · subst hij
          rw [hoj] at hit
          simp only [Option.bind_some, hd, Option.some.injEq] at hit
          exact absurd hit.symm htd
        · rwa [getD_set_ne false (Ne.symm hij)] at h1
  have hcount : left n (Array.replicate l.toArray.size false) = n := by
    unfold left
    have : (List.range n).countP (fun i => !(Array.replicate l.toArray.size false).getD i false) = (List.range n).length := by
      rw [List.countP_eq_length]
      intro i _
      rw [getD_replicate_false]; rfl
    rw [this, List.length_range]
  have := main n (Array.replicate l.toArray.size false) a w hC
    ⟨by simp, fun j oj _ hl => (by rw [getD_replicate_false] at hl; cases hl), fun t _ ht => getD_in (by simpa using ht) (getD_replicate_false _ _)⟩
    hcount hzs.symm hzd.symm (fun t ht => by
      refine (hkp t (List.all_eq_true.2 fun q hq => ?_)).symm
      obtain ⟨i, hi⟩ := List.mem_iff_getElem?.1 hq
      rw [List.getElem?_take] at hi
      split at hi
      · rename_i hin
        cases hb : (q.dst != some t) with
        | true => rfl
        | false =>
          have hqd : q.dst = some t := by simpa using hb
          have := ht i hin (by simp [hi, hqd])
          rw [getD_replicate_false] at this; cases this
      · cases hi)
  have hsum : n + (l.toArray.size - n) = l.toArray.size := by simp; omega
  rw [hsum] at this
  simpa using this


theorem less_quietAt {C : World → Prop} {o : Oper} {a : Act} {w : World} {v : Value} : (less o).quietAt P a C w v = o.quietAt P a C w v := by
  unfold Oper.quietAt
  rw [less_exec]
theorem wpQuiet_less {C : World → Prop} {T : Act → Prop} {ops1 ops2 : Array Oper} : ∀ (r : List Oper) (a : Act), (∀ o ∈ r, o.guard = none) → wpQuiet P ops2 C T r a → wpQuiet P ops1 C T (r.map less) a
  | [], _, _, h => h
  | o :: r, a, hg, h => by
    have hgo := hg o (by simp)
    simp only [List.map_cons, wpQuiet] at h ⊢
    rw [less_wanted hgo _ (yielded ops2 a.tmps)]
    have hw : Region.wanted o (yielded ops2 a.tmps) = true := by simp [Region.wanted, hgo]
    rw [if_pos hw] at h ⊢
    obtain ⟨v, h1, h2⟩ := h
    exact ⟨v, fun w hw => by rw [less_quietAt]; exact h1 w hw, wpQuiet_less r _ (fun o h => hg o (by simp [h])) h2⟩
/-- .. and whose first n operations behind the loose read may call, in a class of worlds. -/
theorem wp_region_cls1 {id : Nat} {Q : Exit → Act → World → Prop} {a : Act} {w : World} {o0 : Oper} {r : List Oper} (n : Nat) (C : World → Prop) (hm : P.follows .mixedOrders = true)
    (h0 : moveB o0 = true) (hf : freeB o0 r = true) (hs : Region.noSelect (o0 :: r).toArray = true) (hB : clsB (r.map less).toArray n = true)
    (ho : once (r.map less).toArray ((r.map less).take n) = true) (v : Value) (hv : ∀ x, o0.op = .move x → a.eval x = v)
    (hsz : (((r.map less).take n).all fun o => match o.dst with | some d => decide (d < a.tmps.size) | none => false) = true) (hC : C w.drew)
    (h : wpQuiet P (o0 :: r).toArray C (fun a' => ∀ w', C w' → wpList P (o0 :: r).toArray (Qt fun a w => Q .normal a w) (r.drop n) a' w') (r.take n) (a.put o0.dst v)) :
    (Code.region id (o0 :: r).toArray true).wp P Q a w := by
  simp only [moveB, Bool.and_eq_true] at h0
  obtain ⟨⟨h01, h02⟩, h03⟩ := h0
  have hg0 : o0.guard = none := by simpa using h02
  have haf : o0.after = #[] := by simpa using h03
  cases hop : o0.op with
  | move x =>
    have hv' := hv x hop
    have hf' := List.all_eq_true.1 hf
    have hg : ∀ o ∈ r, o.guard = none := fun o h => by
      have := hf' o h
      simp only [Bool.and_eq_true] at this
      simpa using this.1
    refine wp_region_any hm ?_
    have hsz' : (o0 :: r).toArray.size = r.length + 1 := by simp
    rw [hsz']
    have hi : (o0 :: r).toArray[0]? = some o0 := by simp
    refine wpAny_move (R := fun a w => Q .normal a w) hi hop hg0 (Region.noSelect_spec hs) (fun _ _ h => h) (fun j oj hj hne hnot => ?_) r.length _ a w.drew (a.eval x) ?_ rfl ?_
    · cases j with
      | zero => exact absurd rfl hne
      | succ j =>
        have hj' : r[j]? = some oj := by simpa using hj
        have := hf' oj (List.mem_of_getElem? hj')
        simp only [Bool.and_eq_true, Bool.or_eq_true] at this
        rcases this.2 with h1 | h1
        · obtain ⟨e, he, hb⟩ := Array.any_eq_true'.1 h1
          simp only [Bool.and_eq_true, beq_iff_eq] at hb
          exact absurd hb.2 (hnot e he hb.1)
        · exact h1
    · exact mem_ready.2 ⟨by simp [Array.getD_eq_getD_getElem?], o0, hi, fun e he => by rw [haf] at he; simp at he⟩
    · have es : (Array.replicate (r.length + 1) false).setIfInBounds 0 true = (true :: (Array.replicate r.length false).toList).toArray := by
        apply Array.ext'
        simp [List.replicate_succ]
      rw [es]
      have hlen : (r.map less).length = r.length := by simp
      refine wpAny_less hg _ _ _ _ ?_
      have htl := wpAny_cls (P := P) (Q := Qt fun a w => Q .normal a w) (a := a.put o0.dst (a.eval x)) (w := w.drew) (l := r.map less) n C hB ho (by rw [put_size]; exact hsz) hC ?_
      · rw [hlen] at htl; exact htl
      · rw [hv', ← List.map_take]
        refine wpQuiet_less (ops2 := (o0 :: r).toArray) _ _ (fun o ho => hg o (List.mem_of_mem_take ho)) ?_
        have e : (fun a' => ∀ w', C w' → wpList P (r.map less).toArray (Qt fun a w => Q .normal a w) ((r.map less).drop n) a' w') = (fun a' => ∀ w', C w' → wpList P (o0 :: r).toArray (Qt fun a w => Q .normal a w) (r.drop n) a' w') := by
          funext a'
          refine propext ⟨fun h w' hw => ?_, fun h w' hw => ?_⟩
          · have h1 := h w' hw
            rwa [← List.map_drop, wpList_less (ops2 := (o0 :: r).toArray) _ _ _ (fun o ho => hg o (List.mem_of_mem_drop ho))] at h1
          · rw [← List.map_drop, wpList_less (ops2 := (o0 :: r).toArray) _ _ _ (fun o ho => hg o (List.mem_of_mem_drop ho))]
            exact h w' hw
        rw [e]
        exact h
  | _ => rw [hop] at h01; cases h01
end
end Go.Proofs.Ytnbjpilanjngmaa.XS
