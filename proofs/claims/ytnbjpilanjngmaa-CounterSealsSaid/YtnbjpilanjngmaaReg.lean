/- Regions that draw their order: walked in the order of the text. -/
import Derived.Test.YtnbjpilanjngmaaStill
namespace Go.Proofs.Ytnbjpilanjngmaa.XS
open Go
variable {P : Program} {α β : Type}
/-- The post of a head: the way out by its end alone. -/
def Qt (R : Act → World → Prop) : Exit → Act → World → Prop
  | .normal, a, w => R a w
  | _, _, _ => False


theorem put_ne (a : Act) (d t : Nat) (v : Value) (h : t ≠ d) : (a.put (some d) v).tmps[t]? = a.tmps[t]? := by
  simp [Act.put, Array.getElem?_setIfInBounds_ne (Ne.symm h)]
theorem put_same (a : Act) (d : Nat) (v : Value) (h : d < a.tmps.size) : (a.put (some d) v).tmps[d]? = some v := by
  simp [Act.put, h]
theorem put_size (a : Act) (d : Option Tmp) (v : Value) : (a.put d v).tmps.size = a.tmps.size := by
  cases d <;> simp [Act.put]

def chkA (ops : Array Oper) (o : Oper) (a : Act) : Bool :=
  !(Region.wanted o (yielded ops a.tmps)) || (match o.dst with
    | some d => chkV o a.eval (a.tmps.getD d undef)
    | none => false)
/-- Each writes a temporary of its own, that no later one writes, and looks at none that it or a later one writes. -/
def once (ops : Array Oper) : List Oper → Bool
  | [] => true
  | o :: r => (match o.dst with | some d => r.all fun q => q.dst != some d | none => false) && (o.looksAt ops).all (fun t => (o :: r).all fun q => q.dst != some t) && once ops r

section
variable {ops : Array Oper} {R : Act → World → Prop}

/-- Two frames that agree where an operation looks. -/
theorem same_eval {o : Oper} {a a' : Act} (h : ∀ t ∈ o.looksAt ops, a'.tmps[t]? = a.tmps[t]?) : ∀ x ∈ o.op.operands, a'.eval x = a.eval x := by
  intro x hx
  cases x with
  | tmp t =>
    have := h t (List.mem_append_left _ (List.mem_filterMap.2 ⟨.tmp t, by simpa using hx, rfl⟩))
    simp [Act.eval, this]
  | _ => rfl
theorem same_wanted {o : Oper} {a a' : Act} (h : ∀ t ∈ o.looksAt ops, a'.tmps[t]? = a.tmps[t]?) : Region.wanted o (yielded ops a'.tmps) = Region.wanted o (yielded ops a.tmps) := by
  unfold Region.wanted
  cases hg : o.guard with
  | none => rfl
  | some gw =>
    obtain ⟨g, want⟩ := gw
    have hy : yielded ops a'.tmps g = yielded ops a.tmps g := by
      unfold yielded
      cases ht : (ops[g]?).bind (·.dst) with
      | none => rfl
      | some t => simp [h t (by simp [Oper.looksAt, hg, ht])]
    simp only [hy]
theorem same_chk {o : Oper} {a a' : Act} (v : Value) (h : ∀ t ∈ o.looksAt ops, a'.tmps[t]? = a.tmps[t]?) : chkV o a'.eval v = chkV o a.eval v := by
  have he := same_eval h
  unfold chkV
  cases hop : o.op <;> simp only [hop] at he ⊢
  case convert s d x => rw [he x (by simp [Op.operands])]

theorem text_keep : ∀ (l : List Oper) (a : Act) (w : World), l.all (headK P) = true → once ops l = true → wpList P ops (Qt R) l a w →
    ∃ a' w', R a' w' ∧ ∀ t, (l.all fun q => q.dst != some t) = true → a'.tmps[t]? = a.tmps[t]?
  | [], a, w, _, _, h => ⟨a, w, h, fun _ _ => rfl⟩
  | o :: r, a, w, hk, ho, h => by
    simp only [List.all_cons, Bool.and_eq_true] at hk
    simp only [once, Bool.and_eq_true] at ho
    cases hd : o.dst with
    | none => simp [hd] at ho
    | some d =>
    have step : ∀ v w1, wpList P ops (Qt R) r (a.put o.dst v) w1 → ∃ a' w', R a' w' ∧ ∀ t, ((o :: r).all fun q => q.dst != some t) = true → a'.tmps[t]? = a.tmps[t]? := by
      intro v w1 h1
      obtain ⟨a', w', hR, hkp⟩ := text_keep r _ w1 hk.2 ho.2 h1
      refine ⟨a', w', hR, fun t ht => ?_⟩
      simp only [List.all_cons, Bool.and_eq_true] at ht
      rw [hkp t ht.2, hd, put_ne _ _ _ _ (fun e => by subst e; simp [hd] at ht)]
    simp only [wpList] at h
    split at h
    · rcases h with h | ⟨_, _, _, h⟩
      · unfold Oper.wp at h
        cases hr : (execOp a.eval o).run P w with
        | halt x w1 => rw [hr] at h; cases x <;> simp [Oper.upon, Qt] at h
        | ok n w1 =>
          obtain ⟨v, rfl, _⟩ := head_run o _ (fun _ => rfl) _ _ _ hk.1 hr
          rw [hr] at h
          exact step v w1 h
      · exact h.elim
    · exact step _ _ h

theorem text_mono {R' : Act → World → Prop} : ∀ (l : List Oper) (a : Act) (w : World), (∀ a' w', R a' w' → R' a' w') → l.all (headK P) = true → wpList P ops (Qt R) l a w → wpList P ops (Qt R') l a w
  | [], _, _, hR, _, h => hR _ _ h
  | o :: r, a, w, hR, hk, h => by
    simp only [List.all_cons, Bool.and_eq_true] at hk
    simp only [wpList] at h ⊢
    split at h
    · rename_i hw
      rw [if_pos hw]
      left
      rcases h with h | ⟨_, _, _, h⟩
      · unfold Oper.wp at h ⊢
        cases hr : (execOp a.eval o).run P w with
        | halt x w1 => rw [hr] at h; cases x <;> simp [Oper.upon, Qt] at h
        | ok n w1 =>
          obtain ⟨v, rfl, _⟩ := head_run o _ (fun _ => rfl) _ _ _ hk.1 hr
          rw [hr] at h
          exact text_mono r _ _ hR hk.2 h
      · exact h.elim
    · rename_i hw
      rw [if_neg hw]
      exact text_mono r _ _ hR hk.2 h

/-- What the text's walk shows of its first operation, if that is carried out. -/
theorem text_first {S : Act → World → Prop} {o : Oper} {r : List Oper} {a : Act} {w : World} (hS : ∀ a' w', S a' w' → chkA ops o a' = true) (hk : headK P o = true) (hkr : r.all (headK P) = true)
    (ho : once ops (o :: r) = true) (hw : Region.wanted o (yielded ops a.tmps) = true) (h : wpList P ops (Qt S) (o :: r) a w) :
    ∃ v, (execOp a.eval o).run P w = .ok (.value v) w ∧ wpList P ops (Qt S) r (a.put o.dst v) w := by
  simp only [once, Bool.and_eq_true] at ho
  cases hd : o.dst with
  | none => simp [hd] at ho
  | some d =>
  simp only [wpList, hw, if_true] at h
  rcases h with h | ⟨_, _, _, h⟩
  · unfold Oper.wp at h
    cases hr : (execOp a.eval o).run P w with
    | halt x w1 => rw [hr] at h; cases x <;> simp [Oper.upon, Qt] at h
    | ok n w1 =>
      obtain ⟨v, rfl, hv⟩ := head_run o _ (fun _ => rfl) _ _ _ hk hr
      rw [hr] at h
      obtain ⟨a', w', hR, hkp⟩ := text_keep r _ w1 hkr ho.2 h
      have hdr : (r.all fun q => q.dst != some d) = true := by have := ho.1.1; rw [hd] at this; exact this
      have hx : a'.tmps.getD d undef = v ∨ a'.tmps.getD d undef = undef := by
        rw [Array.getD_eq_getD_getElem?, hkp d hdr, hd]
        by_cases hin : d < a.tmps.size
        · left; rw [put_same _ _ _ hin]; rfl
        · right; rw [Array.getElem?_eq_none (by rw [put_size]; exact Nat.le_of_not_lt hin)]; rfl
      have hag : ∀ t ∈ o.looksAt ops, a'.tmps[t]? = a.tmps[t]? := by
        intro t ht
        have h1 := List.all_eq_true.1 ho.1.2 t ht
        simp only [List.all_cons, Bool.and_eq_true] at h1
        rw [hkp t h1.2, hd, put_ne _ _ _ _ (fun e => by subst e; simp [hd] at h1)]
      have hc1 := hS _ _ hR
      simp only [chkA, hd, same_wanted hag, hw, Bool.not_true, Bool.false_or, same_chk _ hag] at hc1
      have hchk : chkV o a.eval v = true := by
        cases hop : o.op <;> simp only [chkV, hop] at hc1 ⊢
        case binOp => rcases hx with hx | hx <;> rw [hx] at hc1 <;> first | exact hc1 | cases hc1
        case nilCheck => rcases hx with hx | hx <;> rw [hx] at hc1 <;> first | exact hc1 | cases hc1
        case convert => exact hc1
      have := hv hchk
      subst this
      exact ⟨v, rfl, by rw [← hd]; exact h⟩
  · exact h.elim

theorem text_still {S : Act → World → Prop} : ∀ (l : List Oper) (a : Act) (w : World), (∀ a' w', S a' w' → l.all (fun o => chkA ops o a') = true ∧ R a' w') → l.all (headK P) = true → once ops l = true →
    wpList P ops (Qt S) l a w → wpStill P ops w (fun a' => R a' w) l a
  | [], _, _, hS, _, _, h => (hS _ _ h).2
  | o :: r, a, w, hS, hk, ho, h => by
    have hk0 := hk
    simp only [List.all_cons, Bool.and_eq_true] at hk
    have ho0 := ho
    simp only [once, Bool.and_eq_true] at ho
    have hS' : ∀ a' w', S a' w' → r.all (fun o => chkA ops o a') = true ∧ R a' w' := fun a' w' hs => by
      have := hS a' w' hs
      simp only [List.all_cons, Bool.and_eq_true] at this
      exact ⟨this.1.2, this.2⟩
    have hS1 : ∀ a' w', S a' w' → chkA ops o a' = true := fun a' w' hs => by
      have := hS a' w' hs
      simp only [List.all_cons, Bool.and_eq_true] at this
      exact this.1.1
    simp only [wpStill]
    split
    · rename_i hw
      obtain ⟨v, hr, h1⟩ := text_first hS1 hk.1 hk.2 ho0 hw h
      unfold Oper.still
      rw [hr]
      exact ⟨rfl, text_still r _ _ hS' hk.2 ho.2 h1⟩
    · rename_i hw
      simp only [wpList, hw] at h
      exact text_still r _ _ hS' hk.2 ho.2 h

/-- The head's end. -/
def HeadDone (ops : Array Oper) (l : List Oper) (a : Act) : Prop := l.all (fun o => chkA ops o a) = true

/-- **A region that draws its order, walked in the order of the text**: its first n operations only reckon and read; the others stand in one forced order behind them. -/
theorem wp_region_text {id : Nat} {Q : Exit → Act → World → Prop} {a : Act} {w : World} {l : List Oper} (n : Nat) (hm : P.follows .mixedOrders = true) (hB : Region.lexTailB .any l.toArray n = true)
    (hK : (l.take n).all (headK P) = true) (ho : once l.toArray (l.take n) = true)
    (h : ∀ K : Act → World → Prop, (∀ a' w', HeadDone l.toArray (l.take n) a' ∧ wpList P l.toArray Q (l.drop n) a' w' → K a' w') → wpList P l.toArray (Qt K) (l.take n) a w.drew) :
    (Code.region id l.toArray true).wp P Q a w :=
  wp_region_still_tail n hm hB (text_still (S := fun a' w' => HeadDone l.toArray (l.take n) a' ∧ wpList P l.toArray Q (l.drop n) a' w') (R := fun a' w' => wpList P l.toArray Q (l.drop n) a' w') _ _ _ (fun _ _ h => h) hK ho (h _ fun _ _ h => h))
/-- The same where all operations only reckon and read. -/
theorem wp_region_reads {id : Nat} {Q : Exit → Act → World → Prop} {a : Act} {w : World} {l : List Oper} (hm : P.follows .mixedOrders = true) (hB : Region.lexB .any l.toArray = true)
    (hK : l.all (headK P) = true) (ho : once l.toArray l = true)
    (h : ∀ K : Act → World → Prop, (∀ a' w', HeadDone l.toArray l a' ∧ Q .normal a' w' → K a' w') → wpList P l.toArray (Qt K) l a w.drew) :
    (Code.region id l.toArray true).wp P Q a w :=
  wp_region_still_lit hm hB (text_still (S := fun a' w' => HeadDone l.toArray l a' ∧ Q .normal a' w') (R := fun a' w' => Q .normal a' w') _ _ _ (fun _ _ h => h) hK ho (h _ fun _ _ h => h))

/-! ### A class of worlds: calls that make memory among operations that read -/
variable {C : World → Prop}

/-- What a walk over quiet operations shows of each of them, at the frame behind the last. -/
theorem quiet_all {T : Act → Prop} : ∀ (l : List Oper) (a : Act), (∀ o ∈ l, ∀ cs b, o.op ≠ .select cs b) → once ops l = true → (l.all fun o => match o.dst with | some d => decide (d < a.tmps.size) | none => false) = true → wpQuiet P ops C T l a →
    ∃ z, T z ∧ (∀ o ∈ l, ∃ d, o.dst = some d ∧ d < z.tmps.size ∧ YieldsIn P ops C o (z.tmps.getD d undef) z) ∧ (∀ t, (l.all fun q => q.dst != some t) = true → z.tmps[t]? = a.tmps[t]?) ∧ z.tmps.size = a.tmps.size ∧ z.defers = a.defers
  | [], a, _, _, _, h => ⟨a, h, fun _ h => (by cases h), fun _ _ => rfl, rfl, rfl⟩
  | o :: r, a, hsel, ho, hs, h => by
    simp only [once, Bool.and_eq_true] at ho
    simp only [List.all_cons, Bool.and_eq_true] at hs
    cases hd : o.dst with
    | none => simp [hd] at ho
    | some d =>
    have hlt : d < a.tmps.size := by have := hs.1; rw [hd] at this; simpa using this
    have hq : ∃ v, YieldsIn P ops C o v a ∧ wpQuiet P ops C T r (a.put o.dst v) := by
      simp only [wpQuiet] at h
      split at h
      · rename_i hw; obtain ⟨v, h1, h2⟩ := h; exact ⟨v, .inl ⟨hw, h1⟩, h2⟩
      · rename_i hw; exact ⟨undef, .inr ⟨by simpa using hw, rfl⟩, h⟩
    obtain ⟨v, hy, h2⟩ := hq
    obtain ⟨z, hT, hall, hkp, hsz, hdf⟩ := quiet_all r _ (fun o ho => hsel o (List.mem_cons_of_mem _ ho)) ho.2 (by
      refine List.all_eq_true.2 fun q hq => ?_
      have := List.all_eq_true.1 hs.2 q hq
      rw [put_size]; exact this) h2
    have hdr : (r.all fun q => q.dst != some d) = true := by have := ho.1.1; rw [hd] at this; exact this
    have hag : ∀ t ∈ o.looksAt ops, z.tmps[t]? = a.tmps[t]? := by
      intro t ht
      have h1 := List.all_eq_true.1 ho.1.2 t ht
      simp only [List.all_cons, Bool.and_eq_true] at h1
      rw [hkp t h1.2, hd, put_ne _ _ _ _ (fun e => by subst e; simp [hd] at h1)]
    have hzd : z.tmps.getD d undef = v := by
      rw [Array.getD_eq_getD_getElem?, hkp d hdr, hd, put_same _ _ _ hlt]; rfl
    refine ⟨z, hT, ?_, ?_, by rw [hsz, put_size], by rw [hdf]; cases o.dst <;> rfl⟩
    · intro q hq
      cases hq with
      | head => exact ⟨d, hd, by rw [hsz, put_size]; exact hlt, by
          rw [hzd]
          exact hy.of_same (execOp_congr o (hsel o (List.mem_cons_self ..)) (same_eval hag)) (same_wanted hag)⟩
      | tail _ hq => exact hall q hq
    · intro t ht
      simp only [List.all_cons, Bool.and_eq_true] at ht
      rw [hkp t ht.2, hd, put_ne _ _ _ _ (fun e => by subst e; simp [hd] at ht)]

/-- How many of the first n are yet to come. -/
def left (n : Nat) (listed : Array Bool) : Nat := (List.range n).countP fun i => !listed.getD i false
theorem left_set : ∀ (n : Nat) (listed : Array Bool) (j : Nat), j < n → j < listed.size → listed.getD j false = false → left n (listed.setIfInBounds j true) + 1 = left n listed
  | 0, _, _, h, _, _ => by omega
  | n + 1, listed, j, h, hs, hl => by
    simp only [left, List.range_succ, List.countP_append, List.countP_cons, List.countP_nil]
    by_cases hj : j = n
    · subst hj
      have h1 : (List.range j).countP (fun i => !(listed.setIfInBounds j true).getD i false) = (List.range j).countP (fun i => !listed.getD i false) := by
        apply List.countP_congr
        intro i hi
        have : i < j := by simpa using hi
        rw [getD_set_ne false (by omega)]
      rw [h1, hl]
      have : (listed.setIfInBounds j true).getD j false = true := by simp [hs]
      rw [this]; simp
    · have ih := left_set n listed j (by omega) hs hl
      simp only [left] at ih
      rw [getD_set_ne false (by omega)]
      omega
theorem left_zero {n : Nat} {listed : Array Bool} (h : left n listed = 0) : ∀ i, i < n → listed.getD i false = true := by
  intro i hi
  have := List.countP_eq_zero.1 h i (by simpa using hi)
  simpa using this

/-- The shape of a region whose first n operations come in any order that their edges allow, the others behind them in one order. -/
def clsB (ops : Array Oper) (n : Nat) : Bool :=
  Region.noSelect ops && decide (n ≤ ops.size) && (decide (n = ops.size) || (Region.sinkB .any ops n && Region.chainB .any ops n)) &&
  ((List.range n).all fun k => match ops[k]? with
    | some o => (o.after.all fun e => !(Region.binds .any e) || decide (e.on < k)) &&
        (o.looksAt ops).all fun t => (List.range n).all fun i => !(((ops[i]?).bind (·.dst)) == some t) || o.after.any fun e => Region.binds .any e && e.on == i
    | none => false) &&
  Region.seqB .any ops (ops.size - n) n (Array.replicate n true ++ Array.replicate (ops.size - n) false)

theorem wp_region_cls {id : Nat} {Q : Exit → Act → World → Prop} {a : Act} {w : World} {l : List Oper} (n : Nat) (C : World → Prop) (hm : P.follows .mixedOrders = true) (hB : clsB l.toArray n = true)
    (ho : once l.toArray (l.take n) = true) (hsz : ((l.take n).all fun o => match o.dst with | some d => decide (d < a.tmps.size) | none => false) = true) (hC : C w.drew)
    (h : wpQuiet P l.toArray C (fun a' => ∀ w', C w' → wpList P l.toArray Q (l.drop n) a' w') (l.take n) a) : (Code.region id l.toArray true).wp P Q a w := by
  simp only [clsB, Bool.and_eq_true] at hB
  obtain ⟨⟨⟨⟨hsel, hn⟩, htail⟩, hdeps⟩, hseq⟩ := hB
  have hnl : n ≤ l.length := by simpa using hn
  have hselS := Region.noSelect_spec hsel
  have hat : ∀ {i : Nat} {o : Oper}, i < n → l[i]? = some o → o ∈ l.take n := fun {i o} hi hio =>
    List.mem_of_getElem? (i := i) (by rw [List.getElem?_take]; simp [hi, hio])
  obtain ⟨z, hT, hall, hkp, hzs, hzd⟩ := quiet_all (ops := l.toArray) (C := C) (l.take n) a (fun o hm => by
    obtain ⟨i, hi⟩ := List.mem_iff_getElem?.1 (List.mem_of_mem_take hm)
    exact fun cs b => hselS i o cs b (by simpa using hi)) ho hsz h
  have main : ∀ (m : Nat) (listed : Array Bool) (x : Act) (w' : World), C w' → HeadInv .any l.toArray n listed → left n listed = m →
      x.tmps.size = z.tmps.size → x.defers = z.defers →
      (∀ t, (∀ i, i < n → ((l.toArray[i]?).bind (·.dst)) = some t → listed.getD i false = true) → x.tmps[t]? = z.tmps[t]?) →
      wpAny P .any l.toArray Q (m + (l.toArray.size - n)) listed x w' := by
    intro m
    induction m with
    | zero =>
      intro listed x w' hw' inv hm0 hxs hxd hmix
      have hl0 := left_zero hm0
      have hx : x = z := by
        have : x.tmps = z.tmps := by
          apply Array.ext_getElem?
          intro t
          exact hmix t fun i hi _ => hl0 i hi
        cases x; cases z; simp_all
      have hlist : listed = Array.replicate n true ++ Array.replicate (l.toArray.size - n) false := by
        apply Array.ext_getElem?
        intro i
        have hls := inv.size
        by_cases hin : i < n
        · have h1 := hl0 i hin
          have hi2 : i < listed.size := by rw [hls]; simp; omega
          rw [Array.getElem?_append_left (by simpa using hin)]
          simp [hi2] at h1
          simp [hi2, h1, hin]
        · by_cases hi2 : i < l.toArray.size
          · have h1 := inv.tail i (by omega) hi2
            have hi3 : i < listed.size := by rw [hls]; exact hi2
            rw [Array.getElem?_append_right (by simp; omega)]
            simp [hi3] at h1
            have hi4 : i - n < l.length - n := by simp at hi2; omega
            simp [hi3, h1, hi4]
          · rw [Array.getElem?_eq_none (by omega), Array.getElem?_eq_none (by simp; simp at hi2; omega)]
      rw [hx, hlist, Nat.zero_add]
      have := wpAny_of_seq (P := P) (md := .any) (ops := l.toArray) (Q' := Q) (l.drop n) n (Array.replicate n true ++ Array.replicate (l.toArray.size - n) false) z w' (fun j => by simp) (by simpa using hseq) (hT w' hw')
      simpa using this
    | succ m ih =>
      intro listed x w' hw' inv hm1 hxs hxd hmix
      have hex : ∃ i, i < n ∧ listed.getD i false = false := by
        apply Classical.byContradiction
        intro hno
        have : left n listed = 0 := by
          unfold left
          rw [List.countP_eq_zero]
          intro i hi
          have : i < n := by simpa using hi
          cases hq : listed.getD i false with
          | true => simp
          | false => exact absurd ⟨i, this, hq⟩ hno
        omega
      have hready : Region.ready .any l.toArray listed ≠ [] := by
        obtain ⟨i, hi, hil⟩ := hex
        have hleast : ∃ k, k < n ∧ listed.getD k false = false ∧ ∀ j, j < k → listed.getD j false = true := by
          induction i using Nat.strongRecOn with
          | _ i ihi =>
            by_cases hh : ∃ j, j < i ∧ listed.getD j false = false
            · obtain ⟨j, hj, hjl⟩ := hh
              exact ihi j hj (by omega) hjl
            · refine ⟨i, hi, hil, fun j hj => ?_⟩
              cases hq : listed.getD j false with
              | true => rfl
              | false => exact absurd ⟨j, hj, hq⟩ hh
        obtain ⟨k, hk, hkl, hlow⟩ := hleast
        have hd := List.all_eq_true.1 hdeps k (by simpa using hk)
        have hkin : k < l.length := by omega
        have hko : l.toArray[k]? = some l[k] := by simp [hkin]
        rw [hko] at hd
        simp only [Bool.and_eq_true] at hd
        have : k ∈ Region.ready .any l.toArray listed := mem_ready.2 ⟨getD_in (by rw [inv.size]; simpa using hkin) hkl, l[k], hko, fun e he hb => by
          have := Array.all_eq_true_iff_forall_mem.1 hd.1 e he
          simp only [hb, Bool.not_true, Bool.false_or, decide_eq_true_eq] at this
          exact hlow _ this⟩
        intro h0; rw [h0] at this; cases this
      rw [show m + 1 + (l.toArray.size - n) = (m + (l.toArray.size - n)) + 1 by omega]
      refine ⟨fun h0 => absurd h0 hready, fun j hj => ?_⟩
      obtain ⟨hjun, oj, hoj, hjall⟩ := mem_ready.1 hj
      have hjs : j < l.toArray.size := (Array.getElem?_eq_some_iff.1 hoj).1
      have hjn : j < n := by
        rcases Nat.lt_or_ge j n with h' | h'
        · exact h'
        · exfalso
          rcases Bool.or_eq_true _ _ ▸ htail with h1 | h1
          · simp at h1 hjs; omega
          · simp only [Bool.and_eq_true] at h1
            obtain ⟨i, hi, hil⟩ := hex
            exact tail_waits h1.1 h1.2 (by omega) inv _ i rfl hi (getD_in (by rw [inv.size]; omega) hil) j h' hj
      have hjl : l[j]? = some oj := by simpa using hoj
      obtain ⟨d, hd, hdz, hy⟩ := hall oj (hat hjn hjl)
      have hag : ∀ t ∈ oj.looksAt l.toArray, x.tmps[t]? = z.tmps[t]? := by
        intro t ht
        refine hmix t fun i hi hit => ?_
        have hdp := List.all_eq_true.1 hdeps j (by simpa using hjn)
        rw [hoj] at hdp
        simp only [Bool.and_eq_true] at hdp
        have h1 := List.all_eq_true.1 (List.all_eq_true.1 hdp.2 t ht) i (by simpa using hi)
        simp only [hit, beq_self_eq_true, Bool.not_true, Bool.false_or] at h1
        obtain ⟨e, he, hb⟩ := Array.any_eq_true'.1 h1
        simp only [Bool.and_eq_true, beq_iff_eq] at hb
        rw [← hb.2]; exact hjall e he hb.1
      have hyx : YieldsIn P l.toArray C oj (z.tmps.getD d undef) x := hy.of_same (execOp_congr oj (fun cs b => hselS j oj cs b hoj) (same_eval hag)) (same_wanted hag)
      refine wpOp_of_qOp hw' (K := fun x' => x' = x.put oj.dst (z.tmps.getD d undef)) (fun x' w'' hw'' hx' => ?_) (hyx.qOp hoj rfl)
      subst hx'
      have hjun' : listed.getD j false = false := getD_both hjun
      have hjsz : j < listed.size := by rw [inv.size]; exact hjs
      refine ih _ _ w'' hw'' (inv.set hj hjn) (by have := left_set n listed j hjn hjsz hjun'; omega) (by rw [put_size, hxs]) (by rw [← hxd]; cases oj.dst <;> rfl) ?_
      intro t ht
      by_cases htd : t = d
      · subst htd
        rw [hd, put_same _ _ _ (by rw [hxs]; exact hdz)]
        simp [hdz]
      · rw [hd, put_ne _ _ _ _ htd]
        refine hmix t fun i hi hit => ?_
        have h1 := ht i hi hit
        by_cases hij : i = j
        · subst hij
          rw [hoj] at hit
          simp only [Option.bind_some, hd, Option.some.injEq] at hit
          exact absurd hit.symm htd
        · rwa [getD_set_ne false (Ne.symm hij)] at h1
  refine wp_region_any hm ?_
  have hcount : left n (Array.replicate l.toArray.size false) = n := by
    unfold left
    have : (List.range n).countP (fun i => !(Array.replicate l.toArray.size false).getD i false) = (List.range n).length := by
      rw [List.countP_eq_length]
      intro i _
      rw [getD_replicate_false]; rfl
    rw [this, List.length_range]
  have := main n (Array.replicate l.toArray.size false) a w.drew hC
    ⟨by simp, fun j oj _ hl => (by rw [getD_replicate_false] at hl; cases hl), fun t _ ht => getD_in (by simpa using ht) (getD_replicate_false _ _)⟩
    hcount hzs.symm hzd.symm (fun t ht => by
      refine (hkp t (List.all_eq_true.2 fun q hq => ?_)).symm
      obtain ⟨i, hi⟩ := List.mem_iff_getElem?.1 hq
      rw [List.getElem?_take] at hi
      split at hi
      · rename_i hin
        cases hb : (q.dst != some t) with
        | true => rfl
        | false =>
          have hqd : q.dst = some t := by simpa using hb
          have := ht i hin (by simp [hi, hqd])
          rw [getD_replicate_false] at this; cases this
      · cases hi)
  have hsum : n + (l.toArray.size - n) = l.toArray.size := by simp; omega
  rw [hsum] at this
  exact this

/-- Operations that only reckon and read, by the text's walk in any world of the class. -/
theorem quiet_seg {T : Act → Prop} {z : Act} : ∀ {l1 l2 : List Oper} {a : Act}, l1.all (headK P) = true → once ops l1 = true → (l1.all fun o => match o.dst with | some d => decide (d < a.tmps.size) | none => false) = true →
    (∃ w, C w) → (∀ w, C w → wpList P ops (Qt fun a' w' => HeadDone ops l1 a' ∧ a' = z) l1 a w) → wpQuiet P ops C T l2 z → wpQuiet P ops C T (l1 ++ l2) a
  | [], l2, a, _, _, _, ⟨w, hw⟩, h, h2 => by
    have := (h w hw).2
    subst this; exact h2
  | o :: r, l2, a, hk, ho, hs, hne, h, h2 => by
    have hk0 := hk
    have ho0 := ho
    simp only [List.all_cons, Bool.and_eq_true] at hk hs
    simp only [once, Bool.and_eq_true] at ho
    cases hd : o.dst with
    | none => simp [hd] at ho
    | some d =>
    have hlt : d < a.tmps.size := by have := hs.1; rw [hd] at this; simpa using this
    have hdr : (r.all fun q => q.dst != some d) = true := by have := ho.1.1; rw [hd] at this; exact this
    have hsr : ∀ v, (r.all fun q => match q.dst with | some d' => decide (d' < (a.put o.dst v).tmps.size) | none => false) = true := fun v => by
      refine List.all_eq_true.2 fun q hq => ?_
      have := List.all_eq_true.1 hs.2 q hq
      rw [put_size]; exact this
    have weak : ∀ b w, wpList P ops (Qt fun a' w' => HeadDone ops (o :: r) a' ∧ a' = z) r b w → wpList P ops (Qt fun a' w' => HeadDone ops r a' ∧ a' = z) r b w := fun b w hb => by
      refine text_mono r b w (fun a' w' hh => ⟨?_, hh.2⟩) hk.2 hb
      have := hh.1
      simp only [HeadDone, List.all_cons, Bool.and_eq_true] at this ⊢
      exact this.2
    show wpQuiet P ops C T (o :: (r ++ l2)) a
    simp only [wpQuiet]
    split
    · rename_i hw
      refine ⟨z.tmps.getD d undef, fun w hCw => ?_, ?_⟩
      · obtain ⟨v, hr, h1⟩ := text_first (fun a' w' hh => by
          have := hh.1
          simp only [HeadDone, List.all_cons, Bool.and_eq_true] at this
          exact this.1) hk.1 hk.2 ho0 hw (h w hCw)
        obtain ⟨a', w', hR, hkp⟩ := text_keep r _ w hk.2 ho.2 h1
        have hz : z.tmps.getD d undef = v := by
          rw [← hR.2, Array.getD_eq_getD_getElem?, hkp d hdr, hd, put_same _ _ _ hlt]; rfl
        unfold Oper.quietAt
        rw [hr, hz]
        exact ⟨rfl, rfl⟩
      · refine quiet_seg hk.2 ho.2 (hsr _) hne (fun w hCw => ?_) h2
        obtain ⟨v, hr, h1⟩ := text_first (fun a' w' hh => by
          have := hh.1
          simp only [HeadDone, List.all_cons, Bool.and_eq_true] at this
          exact this.1) hk.1 hk.2 ho0 hw (h w hCw)
        obtain ⟨a', w', hR, hkp⟩ := text_keep r _ w hk.2 ho.2 h1
        have hz : z.tmps.getD d undef = v := by
          rw [← hR.2, Array.getD_eq_getD_getElem?, hkp d hdr, hd, put_same _ _ _ hlt]; rfl
        rw [hz]
        exact weak _ _ h1
    · rename_i hw
      refine quiet_seg hk.2 ho.2 (hsr _) hne (fun w hCw => ?_) h2
      have := h w hCw
      simp only [wpList, hw] at this
      exact weak _ _ this
/-- The first k of them so. -/
theorem quiet_segN {T : Act → Prop} {l : List Oper} {a : Act} (k : Nat) (hk : (l.take k).all (headK P) = true) (ho : once ops (l.take k) = true)
    (hs : ((l.take k).all fun o => match o.dst with | some d => decide (d < a.tmps.size) | none => false) = true) (hne : ∃ w, C w)
    (h : ∃ z, (∀ w, C w → ∀ K : Act → World → Prop, (∀ a' w', HeadDone ops (l.take k) a' ∧ a' = z → K a' w') → wpList P ops (Qt K) (l.take k) a w) ∧ wpQuiet P ops C T (l.drop k) z) : wpQuiet P ops C T l a := by
  obtain ⟨z, h, h2⟩ := h
  have := quiet_seg (T := T) (z := z) (l2 := l.drop k) hk ho hs hne (fun w hw => h w hw _ fun _ _ h => h) h2
  rwa [List.take_append_drop] at this
/-- A call of a Go function that keeps the class and hands back one value. -/
theorem quiet_call {T : Act → Prop} {o : Oper} {l2 : List Oper} {a : Act} (hg : o.guard = none) (f : FuncId) (args : Array Value) (he : ∀ w, (execOp a.eval o).run P w = .ok (.enter f args) w) (v : Value)
    (h : ∀ w, C w → Calls P f args w fun e w' => e = .returned v ∧ C w') (h2 : wpQuiet P ops C T l2 (a.put o.dst v)) : wpQuiet P ops C T (o :: l2) a := by
  simp only [wpQuiet, Region.wanted, hg, if_true]
  refine ⟨v, fun w hw => ?_, h2⟩
  unfold Oper.quietAt
  rw [he w]
  exact ⟨rfl, h w hw⟩
/-- .. under a guard that lets it. -/
theorem quiet_callG {T : Act → Prop} {o : Oper} {l2 : List Oper} {a : Act} (hg : Region.wanted o (yielded ops a.tmps) = true) (f : FuncId) (args : Array Value) (he : ∀ w, (execOp a.eval o).run P w = .ok (.enter f args) w) (v : Value)
    (h : ∀ w, C w → Calls P f args w fun e w' => e = .returned v ∧ C w') (h2 : wpQuiet P ops C T l2 (a.put o.dst v)) : wpQuiet P ops C T (o :: l2) a := by
  simp only [wpQuiet, hg, if_true]
  refine ⟨v, fun w hw => ?_, h2⟩
  unfold Oper.quietAt
  rw [he w]
  exact ⟨rfl, h w hw⟩
end
end Go.Proofs.Ytnbjpilanjngmaa.XS
