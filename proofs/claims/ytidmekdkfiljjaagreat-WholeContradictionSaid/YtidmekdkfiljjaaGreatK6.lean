/- Soundness of the operations that turn nothing: tests for equality, slices, literals. No condition. -/
import Derived.Test.YtidmekdkfiljjaaGreatK5
namespace Go.Abs
open Go

theorem run_eq_op {P : Program} {w : World} (neg : Bool) (t : TypeId) (x y : Operand) (u v : Value) (hg : ∀ op, (eqGuard op t x y u v).run P w = .ok () w)
    (hnum : ∀ op, (op = .eql ∨ op = .neq) → binOp op t u v = (if op = .eql then (do pure (.bool (← Op.equal t u v))) else (do pure (.bool (!(← Op.equal t u v)))))) {b : Bool} (h : (Op.equal t u v).run P w = .ok b w) :
    ((do eqGuard (if neg then .neq else .eql) t x y u v; binOp (if neg then .neq else .eql) t u v) : Sem Value).run P w = .ok (.bool (if neg then !b else b)) w := by
  cases neg
  · simp only [Bool.false_eq_true, if_false, Sem.run_bind, hg, Result.andThen_ok]
    rw [hnum .eql (.inl rfl)]
    simp [h]
  · simp only [if_true, Sem.run_bind, hg, Result.andThen_ok]
    rw [hnum .neq (.inr rfl)]
    simp [h]

/-- The frame of the four: a value that is found equal or not, in the same world. -/
theorem sF_eq_frame {P : Program} {o : Oper} {t t' : TypeId} {neg : Bool} {x y : Operand} (ho : o.op = .binOp (if neg then .neq else .eql) t x y t') {a : Act} {w : World}
    (hg : ∀ op, (eqGuard op t x y (a.eval x) (a.eval y)).run P w = .ok () w)
    (hnum : ∀ op, (op = .eql ∨ op = .neq) → binOp op t (a.eval x) (a.eval y) = (if op = .eql then (do pure (.bool (← Op.equal t (a.eval x) (a.eval y)))) else (do pure (.bool (!(← Op.equal t (a.eval x) (a.eval y)))))))
    {b : Bool} (h : (Op.equal t (a.eval x) (a.eval y)).run P w = .ok b w) : (execOp a.eval o).run P w = .ok (.value (.bool (if neg then !b else b))) w := by
  have := run_eq_op (P := P) (w := w) neg t x y _ _ hg hnum h
  simp only [execOp, ho]
  rw [Sem.run_bind, this]; rfl

theorem sF_eq_bool {P : Program} {o : Oper} {t t' : TypeId} {neg : Bool} {x y : Operand} {ax ay : Arg} (ho : o.op = .binOp (if neg then .neq else .eql) t x y t') (ht : P.underlying t = some .bool)
    (hx : cArg x = some ax) (hy : cArg y = some ay) : FSound P o (.eqv .bool neg 0 ax ay) := by
  intro N s e h w0 own a w hs K hk next Q hn
  have rx := cArg_rel hs hx
  have ry := cArg_rel hs hy
  simp only [evF, evEq] at hk
  split at hk
  · rename_i p q hb hc
    rw [hb] at rx; rw [hc] at ry
    have e1 := rx.bool_inv
    have e2 := ry.bool_inv
    refine wp_pure (sF_eq_frame ho (fun op => by rw [e1, eqGuard_at_bool]; rfl) (fun op ho' => by rw [e1, e2]; rcases ho' with rfl | rfl <;> rfl) (b := p == q) ?_) (hn s _ _ w (Sg.le.refl s) hs.heap (.bool _) hk)
    rw [e1, e2]; exact run_equalIn_bool' w 9999 t p q ht
  · exact hk.elim

theorem sF_eq_slice {P : Program} {o : Oper} {t t' e' : TypeId} {neg : Bool} {x y : Operand} {ax ay : Arg} (ho : o.op = .binOp (if neg then .neq else .eql) t x y t') (ht : P.underlying t = some (.slice e'))
    (hx : cArg x = some ax) (hy : cArg y = some ay) : FSound P o (.eqv .slice neg 0 ax ay) := by
  intro N s e h w0 own a w hs K hk next Q hn
  have rx := cArg_rel hs hx
  have ry := cArg_rel hs hy
  simp only [evF, evEq] at hk
  split at hk
  · rename_i nl n cs tl tl' hb hc
    rw [hb] at rx; rw [hc] at ry
    obtain ⟨A, cap, vs, e1, _, _, hnil, _⟩ := rx.sl_inv
    obtain ⟨A', cap', vs', e2, _, _, hnil', hnone', _⟩ := ry.sl_inv
    have hA' : A' = none := by
      cases A' with
      | none => rfl
      | some _ => simp at hnil'
    subst hA'
    have hc' := (hnone' rfl).2
    subst hc'
    refine wp_pure (sF_eq_frame ho (fun op => by rw [e1, eqGuard_at_slice]; rfl) (fun op ho' => by rw [e1, e2]; rcases ho' with rfl | rfl <;> rfl) (b := nl) ?_) (hn s _ _ w (Sg.le.refl s) hs.heap (.bool _) hk)
    rw [e1, e2, hnil]
    have hh : ∀ d, (Op.equalIn (d + 1) t (.slice A n cap) (.slice none 0 0)).run P w = .ok A.isNone w := fun d => by
      cases A <;> simp [Op.equalIn, run_underlying ht]
    exact hh 9999
  · rename_i b off n cap tl' hb hc
    rw [hb] at rx; rw [hc] at ry
    obtain ⟨c, k, e1, _, _, _, _⟩ := rx.msl_inv
    obtain ⟨A', cap', vs', e2, _, _, hnil', hnone', _⟩ := ry.sl_inv
    have hA' : A' = none := by
      cases A' with
      | none => rfl
      | some _ => simp at hnil'
    subst hA'
    have hc' := (hnone' rfl).2
    subst hc'
    refine wp_pure (sF_eq_frame ho (fun op => by rw [e1, eqGuard_at_slice]; rfl) (fun op ho' => by rw [e1, e2]; rcases ho' with rfl | rfl <;> rfl) (b := false) ?_) (hn s _ _ w (Sg.le.refl s) hs.heap (.bool _) hk)
    rw [e1, e2]
    have hh : ∀ d, (Op.equalIn (d + 1) t (.slice (some ⟨c, off, none⟩) n k) (.slice none 0 0)).run P w = .ok false w := fun d => by
      simp [Op.equalIn, run_underlying ht]
    exact hh 9999
  · exact hk.elim

theorem VRel.fn_inv {s : Sg} {f : FuncId} {caps : List AV} {v : Value} (h : VRel s (.fn f caps) v) : ∃ vs, v = .func (.func f) #[] vs.toArray ∧ VRels s caps vs := by
  cases h with | fn _ _ vs h1 h2 => exact ⟨vs, rfl, h1, h2⟩
theorem VRel.nilfn_inv {s : Sg} {v : Value} (h : VRel s .nilfn v) : v = .nilFunc := by cases h; rfl
theorem VRel.nilp_inv {s : Sg} {v : Value} (h : VRel s .nilp v) : v = .pointer none := by cases h; rfl

theorem sF_eq_func {P : Program} {o : Oper} {t t' : TypeId} {p q : Array TypeId} {vr neg : Bool} {x y : Operand} {ax ay : Arg} (ho : o.op = .binOp (if neg then .neq else .eql) t x y t') (ht : P.underlying t = some (.func p q vr))
    (hx : cArg x = some ax) (hy : cArg y = some ay) : FSound P o (.eqv .func neg 0 ax ay) := by
  intro N s e h w0 own a w hs K hk next Q hn
  have rx := cArg_rel hs hx
  have ry := cArg_rel hs hy
  simp only [evF, evEq] at hk
  split at hk
  · rename_i f caps hb hc
    rw [hb] at rx; rw [hc] at ry
    obtain ⟨vs, e1, _⟩ := rx.fn_inv
    have e2 := ry.nilfn_inv
    refine wp_pure (sF_eq_frame ho (fun op => by rw [e1, eqGuard_at_func]; rfl) (fun op ho' => by rw [e1, e2]; rcases ho' with rfl | rfl <;> rfl) (b := false) ?_) (hn s _ _ w (Sg.le.refl s) hs.heap (.bool _) hk)
    rw [e1, e2]
    have hh : ∀ d, (Op.equalIn (d + 1) t (.func (.func f) #[] vs.toArray) .nilFunc).run P w = .ok false w := fun d => by
      simp [Op.equalIn, run_underlying ht]
    exact hh 9999
  · rename_i hb hc
    rw [hb] at rx; rw [hc] at ry
    have e1 := rx.nilfn_inv
    have e2 := ry.nilfn_inv
    refine wp_pure (sF_eq_frame ho (fun op => by rw [e1, eqGuard_at_nilFunc]; rfl) (fun op ho' => by rw [e1, e2]; rcases ho' with rfl | rfl <;> rfl) (b := true) ?_) (hn s _ _ w (Sg.le.refl s) hs.heap (.bool _) hk)
    rw [e1, e2]
    have hh : ∀ d, (Op.equalIn (d + 1) t .nilFunc .nilFunc).run P w = .ok true w := fun d => by
      simp [Op.equalIn, run_underlying ht]
    exact hh 9999
  · exact hk.elim

theorem sF_eq_ptr {P : Program} {o : Oper} {t t' e' : TypeId} {neg : Bool} {x y : Operand} {ax ay : Arg} (ho : o.op = .binOp (if neg then .neq else .eql) t x y t') (ht : P.underlying t = some (.pointer e'))
    (hx : cArg x = some ax) (hy : cArg y = some ay) : FSound P o (.eqv .ptr neg 0 ax ay) := by
  intro N s e h w0 own a w hs K hk next Q hn
  have rx := cArg_rel hs hx
  have ry := cArg_rel hs hy
  simp only [evF, evEq] at hk
  split at hk
  · rename_i b off hb hc
    rw [hb] at rx; rw [hc] at ry
    obtain ⟨c, e1, _⟩ := rx.ptr_inv
    have e2 := ry.nilp_inv
    refine wp_pure (sF_eq_frame ho (fun op => by rw [e1, eqGuard_at_pointer]; rfl) (fun op ho' => by rw [e1, e2]; rcases ho' with rfl | rfl <;> rfl) (b := false) ?_) (hn s _ _ w (Sg.le.refl s) hs.heap (.bool _) hk)
    rw [e1, e2]
    have hh : ∀ d, (Op.equalIn (d + 1) t (.pointer (some ⟨c, off, none⟩)) (.pointer none)).run P w = .ok false w := fun d => by
      simp [Op.equalIn, run_underlying ht]
    exact hh 9999
  · rename_i cs hb hc
    rw [hb] at rx; rw [hc] at ry
    obtain ⟨ad, vs, e1, _⟩ := rx.sptr_inv
    have e2 := ry.nilp_inv
    refine wp_pure (sF_eq_frame ho (fun op => by rw [e1, eqGuard_at_pointer]; rfl) (fun op ho' => by rw [e1, e2]; rcases ho' with rfl | rfl <;> rfl) (b := false) ?_) (hn s _ _ w (Sg.le.refl s) hs.heap (.bool _) hk)
    rw [e1, e2]
    have hh : ∀ d, (Op.equalIn (d + 1) t (.pointer (some ad)) (.pointer none)).run P w = .ok false w := fun d => by
      simp [Op.equalIn, run_underlying ht]
    exact hh 9999
  · rename_i hb hc
    rw [hb] at rx; rw [hc] at ry
    have e1 := rx.nilp_inv
    have e2 := ry.nilp_inv
    refine wp_pure (sF_eq_frame ho (fun op => by rw [e1, eqGuard_at_pointer]; rfl) (fun op ho' => by rw [e1, e2]; rcases ho' with rfl | rfl <;> rfl) (b := true) ?_) (hn s _ _ w (Sg.le.refl s) hs.heap (.bool _) hk)
    rw [e1, e2]
    have hh : ∀ d, (Op.equalIn (d + 1) t (.pointer none) (.pointer none)).run P w = .ok true w := fun d => by
      simp [Op.equalIn, run_underlying ht]
    exact hh 9999
  · exact hk.elim

theorem eqCells_run {P : Program} {w : World} {s : Sg} (d : Nat) : ∀ (fs : List Field) (k : Nat) (xs ys : List AV) (us vs : List Value) (b : Bool), intFields P fs k = true → VRels s xs us → VRels s ys vs → xs.length = k + fs.length → ys.length = k + fs.length →
    eqCells (xs.drop k) (ys.drop k) = some b → (Op.eqFields (d + 1) us.toArray vs.toArray fs).run P w = .ok b w := by
  intro fs
  induction fs with
  | nil =>
    intro k xs ys us vs b _ _ _ hx hy hb
    simp at hx hy
    rw [List.drop_eq_nil_of_le (by omega), List.drop_eq_nil_of_le (by omega)] at hb
    simp [eqCells] at hb
    subst hb
    rfl
  | cons f fs ih =>
    intro k xs ys us vs b hf hx hy lx ly hb
    simp only [List.length_cons] at lx ly
    simp only [intFields, Bool.and_eq_true, bne_iff_ne, beq_iff_eq] at hf
    obtain ⟨⟨⟨hne, hoff⟩, hty⟩, hrest⟩ := hf
    have hkx : k < xs.length := by omega
    have hky : k < ys.length := by omega
    rw [List.drop_eq_getElem_cons hkx, List.drop_eq_getElem_cons hky] at hb
    obtain ⟨u, hu, ru⟩ := hx.at_ (List.getElem?_eq_getElem hkx)
    obtain ⟨v, hv, rv⟩ := hy.at_ (List.getElem?_eq_getElem hky)
    generalize xs[k] = x at *
    generalize ys[k] = y at *
    unfold eqCells at hb
    split at hb
    · rename_i heq _; cases heq
    · rename_i k1 p xs' k2 q ys' heq heq2
      cases heq; cases heq2
      split at hb
      · rename_i hk12
        subst hk12
        cases hr : eqCells (xs.drop (k + 1)) (ys.drop (k + 1)) with
        | none => simp [hr] at hb
        | some r =>
          simp [hr] at hb
          subst hb
          obtain ⟨e1, _⟩ := ru.int_inv
          obtain ⟨e2, _⟩ := rv.int_inv
          subst e1 e2
          have hih := ih (k + 1) xs ys us vs r hrest hx hy (by omega) (by omega) hr
          cases hut : P.underlying f.type with
          | none => simp [hut] at hty
          | some dsc =>
            cases dsc <;> simp [hut] at hty
            rename_i k0
            have hag : (isAgg f.type).run P w = .ok false w := aggT_run (b := false) (by simp [aggT, hut]) w
            have hpx : (part f.type us.toArray k).run P w = .ok (.int k1 p) w := by simp [part, hag, hu]
            have hpy : (part f.type vs.toArray k).run P w = .ok (.int k1 q) w := by simp [part, hag, hv]
            have heq := run_equalIn_int (P := P) w d f.type k1 k0 p q hut
            simp only [Op.eqFields, hne, ne_eq, not_false_eq_true, if_true, hoff, Sem.run_bind, hpx, hpy, Result.andThen_ok, heq, Sem.run_ite]
            by_cases hpq : p = q
            · subst hpq
              simp [hih]
            · simp [hpq]
      · cases hb
    · cases hb

theorem eqCells_len : ∀ (xs ys : List AV) (b : Bool), eqCells xs ys = some b → xs.length = ys.length := by
  intro xs
  induction xs with
  | nil => intro ys b h; cases ys <;> simp_all [eqCells]
  | cons x xs ih =>
    intro ys b h
    cases ys with
    | nil => cases x <;> simp [eqCells] at h
    | cons y ys =>
      unfold eqCells at h
      split at h
      · rename_i heq _; cases heq
      · rename_i heq heq2
        cases heq; cases heq2
        split at h
        · cases hr : eqCells xs ys with
          | none => simp [hr] at h
          | some r => simp [ih ys r hr]
        · cases h
      · cases h

theorem sF_eq_ints {P : Program} {o : Oper} {t t' : TypeId} {fs : Array Field} {neg : Bool} {x y : Operand} {ax ay : Arg} (ho : o.op = .binOp (if neg then .neq else .eql) t x y t') (ht : P.underlying t = some (.struct fs))
    (hf : intFields P fs.toList 0 = true) (hp : P.stoodInHeld t = false) (hg : P.eqGuardType P.depth t = false) (hx : cArg x = some ax) (hy : cArg y = some ay) : FSound P o (.eqv .ints neg fs.size ax ay) := by
  intro N s e h w0 own a w hs K hk next Q hn
  have rx := cArg_rel hs hx
  have ry := cArg_rel hs hy
  simp only [evF, evEq] at hk
  split at hk
  · rename_i xs ys hb hc
    rw [hb] at rx; rw [hc] at ry
    obtain ⟨us, e1, r1⟩ := rx.st_inv
    obtain ⟨vs, e2, r2⟩ := ry.st_inv
    obtain ⟨b, hlen, hb', hk⟩ := hk
    have hlen2 := eqCells_len xs ys b hb'
    have hfo : P.fieldsOf t = fs := by simp [Program.fieldsOf, ht]
    refine wp_pure (sF_eq_frame ho (fun op => by rw [e1, e2]; exact run_eqGuard_agg w op t x y _ _ hg) (fun op ho' => by rw [e1, e2]; rcases ho' with rfl | rfl <;> rfl) (b := b) ?_) (hn s _ _ w (Sg.le.refl s) hs.heap (.bool _) hk)
    rw [e1, e2]
    have := run_equalIn_struct (P := P) w 9999 t us.toArray vs.toArray (by rw [hfo]; exact ht) hp
    rw [hfo] at this
    refine this.trans ?_
    exact eqCells_run 9998 fs.toList 0 xs ys us vs b hf r1 r2 (by simpa using hlen) (by simpa [← hlen2] using hlen) (by simpa using hb')
  · exact hk.elim
end Go.Abs
