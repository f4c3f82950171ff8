/- Soundness of maps, of append whose answer may be written or that writes, of clear, and of the bytes of a string. No condition. -/
import Derived.Test.YtidmekdkfiljjaaGreatK12
import Derived.MapKept
import Derived.Carry
namespace Go.Abs
open Go

theorem sF_strIndex {P : Program} {o : Oper} {t : TypeId} {x i : Operand} {ax ai : Arg} (ho : o.op = .index t x i) (hu : P.underlying t = some .string) (hx : cArg x = some ax) (hi : cArg i = some ai) : FSound P o (.strIndex ax ai) := by
  intro N s e h w0 own a w hs K hk next Q hn
  have rx := cArg_rel hs hx
  have ri := cArg_rel hs hi
  simp only [evF] at hk
  split at hk
  · rename_i b k j hb hj
    rw [hb] at rx; rw [hj] at ri
    have e1 := rx.str_inv
    obtain ⟨e2, _⟩ := ri.int_inv
    obtain ⟨h0, u, hu', hk⟩ := hk
    have hr : InR .u8 (u.toNat : Int) := by
      have : u.toNat < 256 := u.toNat_lt
      simp only [InR, IntKind.min, IntKind.max, IntKind.signed, IntKind.bits]; simp; omega
    refine wp_pure (v := .int .u8 u.toNat) ?_ (hn s _ _ w (Sg.le.refl s) hs.heap (.int .u8 _ hr) hk)
    simp [execOp, ho, e1, e2, Instr.index, asIntOf, run_underlying hu, h0, hu']
  · exact hk.elim

/-! ### Keys -/
theorem eqCells_true {s : Sg} : ∀ {xs ys : List AV} {us vs : List Value}, eqCells xs ys = some true → VRels s xs us → VRels s ys vs → us = vs := by
  intro xs
  induction xs with
  | nil =>
    intro ys us vs h hx hy
    cases ys with
    | nil =>
      have h1 : us = [] := List.eq_nil_of_length_eq_zero (by simpa using hx.1)
      have h2 : vs = [] := List.eq_nil_of_length_eq_zero (by simpa using hy.1)
      rw [h1, h2]
    | cons => simp [eqCells] at h
  | cons x xs ih =>
    intro ys us vs h hx hy
    cases ys with
    | nil => cases x <;> simp [eqCells] at h
    | cons y ys =>
      unfold eqCells at h
      split at h
      · rename_i heq _; cases heq
      · rename_i k1 p xs' k2 q ys' heq heq2
        cases heq; cases heq2
        split at h
        · rename_i hk12
          subst hk12
          cases hr : eqCells xs ys with
          | none => simp [hr] at h
          | some r =>
            simp [hr] at h
            obtain ⟨h1, h2⟩ := h
            subst h1 h2
            cases us with
            | nil => simp [VRels] at hx
            | cons u us =>
              cases vs with
              | nil => simp [VRels] at hy
              | cons v vs =>
                have e1 := (hx.2 0 _ u rfl rfl).int_inv.1
                have e2 := (hy.2 0 _ v rfl rfl).int_inv.1
                have ht := ih (us := us) (vs := vs) hr ⟨by simpa using hx.1, fun j a b ha hb => hx.2 (j + 1) a b (by simpa using ha) (by simpa using hb)⟩ ⟨by simpa using hy.1, fun j a b ha hb => hy.2 (j + 1) a b (by simpa using ha) (by simpa using hb)⟩
                rw [e1, e2, ht]
        · cases h
      · cases h

theorem sameBits_ints : ∀ (vs : List Value), (∀ v ∈ vs, ∃ k n, v = Value.int k n) → ∀ m, (vs.zip vs).all (fun p => Instr.sameBits m p.1 p.2) = true := by
  intro vs h m
  rw [List.all_eq_true]
  intro p hp
  obtain ⟨x, y⟩ := p
  have hxy : x = y := by
    obtain ⟨i, hi, he⟩ := List.getElem_of_mem hp
    simp at he
    rw [← he.1, ← he.2]
  subst hxy
  have hx : x ∈ vs := (List.of_mem_zip hp).1
  obtain ⟨k, n, rfl⟩ := h x hx
  cases m <;> simp [Instr.sameBits]
theorem eqCells_ints {s : Sg} : ∀ {xs ys : List AV} {us : List Value} {b : Bool}, eqCells xs ys = some b → VRels s xs us → ∀ u ∈ us, ∃ k n, u = Value.int k n := by
  intro xs
  induction xs with
  | nil =>
    intro ys us b h hx u hu
    have h1 : us = [] := List.eq_nil_of_length_eq_zero (by simpa using hx.1)
    subst h1; cases hu
  | cons x xs ih =>
    intro ys us b h hx u hu
    cases ys with
    | nil => cases x <;> simp [eqCells] at h
    | cons y ys =>
      unfold eqCells at h
      split at h
      · rename_i heq _; cases heq
      · rename_i k1 p xs' k2 q ys' heq heq2
        cases heq; cases heq2
        split at h
        · cases hr : eqCells xs ys with
          | none => simp [hr] at h
          | some r =>
            cases us with
            | nil => cases hu
            | cons v vs =>
              rcases List.mem_cons.1 hu with rfl | hu
              · exact ⟨_, _, (hx.2 0 _ _ rfl rfl).int_inv.1⟩
              · exact ih (us := vs) hr ⟨by simpa using hx.1, fun j a b ha hb => hx.2 (j + 1) a b (by simpa using ha) (by simpa using hb)⟩ u hu
        · cases h
      · cases h

/-- A key's type, and what is asked of a key. -/
def KeyIs (P : Program) (kt : TypeId) (kd : Option Nat) (v : Value) : Prop :=
  match kd with
  | none => (∃ i, P.underlying kt = some (.int i)) ∧ ∃ k n, v = Value.int k n
  | some m => ∃ fs, P.underlying kt = some (.struct fs) ∧ fs.size = m ∧ intFields P fs.toList 0 = true ∧ P.stoodInHeld kt = false ∧ ∃ us : List Value, v = .agg us.toArray ∧ us.length = m ∧ ∀ u ∈ us, ∃ k n, u = Value.int k n

theorem keyT_is {P : Program} {kt : TypeId} {kd : Option Nat} (h : keyT P kt = some kd) {s : Sg} {k : AV} {v : Value} (hk : keyOK kd k = true) (rk : VRel s k v) : KeyIs P kt kd v := by
  unfold keyT at h
  split at h
  · rename_i i hu
    cases h
    cases k <;> simp only [keyOK, beq_iff_eq, Bool.and_eq_true, reduceCtorEq, false_and, Bool.false_eq_true] at hk
    exact ⟨⟨i, hu⟩, _, _, rk.int_inv.1⟩
  · rename_i fs hu
    split at h
    · rename_i hc
      simp only [Bool.and_eq_true, Bool.not_eq_true'] at hc
      cases h
      cases k <;> simp only [keyOK, beq_iff_eq, Bool.and_eq_true, reduceCtorEq, Bool.false_eq_true] at hk
      rename_i xs
      obtain ⟨us, e1, hr⟩ := rk.st_inv
      obtain ⟨b, hb⟩ := Option.isSome_iff_exists.1 hk.2
      refine ⟨fs, hu, rfl, hc.1, hc.2, us, e1, ?_, eqCells_ints hb hr⟩
      rw [hr.1]; exact (Option.some.inj hk.1).symm
    · cases h
  · cases h
theorem keyEq_ok {kd : Option Nat} {k q : AV} {b : Bool} (h : keyEq kd k q = some b) : keyOK kd k = true := by
  unfold keyEq at h
  split at h
  · split at h
    · rename_i hc; simp [keyOK, hc.1]
    · cases h
  · split at h
    · rename_i xs ys hc
      simp only [keyOK, hc, beq_self_eq_true, Bool.true_and]
      -- xs are ints
      have : ∀ (xs ys : List AV) (b : Bool), eqCells xs ys = some b → (eqCells xs xs).isSome = true := by
        intro xs
        induction xs with
        | nil => intro _ _ _; rfl
        | cons x xs ih =>
          intro ys b h
          cases ys with
          | nil => cases x <;> simp [eqCells] at h
          | cons y ys =>
            unfold eqCells at h
            split at h
            · rename_i heq _; cases heq
            · rename_i k1 p xs' k2 q ys' heq heq2
              cases heq; cases heq2
              split at h
              · cases hr : eqCells xs ys with
                | none => simp [hr] at h
                | some r => simp [eqCells, ih ys r hr]
              · cases h
            · cases h
      exact this xs ys b h
    · cases h
  · cases h

/-- Keys that are told apart: what the program's own test says. -/
theorem keyEq_run {P : Program} {w : World} {s : Sg} {kt : TypeId} {kd : Option Nat} (hkt : keyT P kt = some kd) {k q : AV} {b : Bool} (hb : keyEq kd k q = some b) {vk vq : Value} (rk : VRel s k vk) (rq : VRel s q vq) :
    (Op.equal kt vk vq).run P w = .ok b w ∧ (kd = none → ∀ d, P.underlying kt = some d → Instr.sameNow d vk vq = some b) ∧ (kd ≠ none → ∀ d, P.underlying kt = some d → Instr.sameNow d vk vq = none) ∧ (b = true → vk = vq) := by
  have hki := keyT_is hkt (keyEq_ok hb) rk
  unfold keyEq at hb
  split at hb
  · rename_i k1 a k2 c
    split at hb
    · rename_i hk
      obtain ⟨rfl, rfl⟩ := hk
      cases hb
      obtain ⟨⟨i, hu⟩, _⟩ := hki
      have e1 := rk.int_inv.1
      have e2 := rq.int_inv.1
      subst e1 e2
      refine ⟨run_equalIn_int w 9999 kt k1 i a c hu, fun _ d hd => ?_, fun h => absurd rfl h, fun h => ?_⟩
      · rw [hu] at hd; cases hd
        simp [Instr.sameNow]
        rfl
      · simp only [decide_eq_true_eq] at h; rw [h]
    · cases hb
  · rename_i xs ys
    split at hb
    · rename_i hk
      subst hk
      obtain ⟨fs, hu, hsz, hf, hp, _⟩ := hki
      obtain ⟨us, e1, r1⟩ := rk.st_inv
      obtain ⟨vs, e2, r2⟩ := rq.st_inv
      subst e1 e2
      have hlen2 := eqCells_len xs ys b hb
      have hfo : P.fieldsOf kt = fs := by simp [Program.fieldsOf, hu]
      refine ⟨?_, fun h => (by cases h), fun _ d hd => ?_, fun h => ?_⟩
      · have := run_equalIn_struct (P := P) w 9999 kt us.toArray vs.toArray (by rw [hfo]; exact hu) hp
        rw [hfo] at this
        refine this.trans ?_
        exact eqCells_run 9998 fs.toList 0 xs ys us vs b hf r1 r2 (by simp [hsz]) (by simp [hsz, hlen2]) (by simpa using hb)
      · rw [hu] at hd; cases hd; rfl
      · subst h
        rw [eqCells_true hb r1 r2]
    · cases hb
  · cases hb

/-- The key's place, as the run finds it. -/
theorem find_run {P : Program} {w : World} {s : Sg} {kt : TypeId} {kd : Option Nat} (hkt : keyT P kt = some kd) {k : AV} {vk : Value} (rk : VRel s k vk) :
    ∀ (es : List (AV × AV)) (mes : List MapEntry) (n : Nat) (r : Option AV), EntOK s es mes → findAV kd k es = some r →
      ∃ o : Option (Nat × Value), (Instr.findAsking kt vk mes n).run P w = .ok o w ∧ (kd = none → ∀ d, P.underlying kt = some d → Instr.findNow d vk mes n = some o) ∧ (kd ≠ none → mes ≠ [] → ∀ d, P.underlying kt = some d → Instr.findNow d vk mes n = none) ∧
        ((r = none ∧ o = none ∧ ∀ x, updAV kd k x es = some (es ++ [(k, x)])) ∨ ∃ i m y, r = some y ∧ o = some (n + i, m.val) ∧ mes[i]? = some m ∧ VRel s y m.val ∧ m.key = vk ∧ i < es.length ∧ ∀ x, updAV kd k x es = some (es.set i (k, x))) := by
  intro es
  induction es with
  | nil =>
    intro mes n r he hf
    have hm : mes = [] := List.eq_nil_of_length_eq_zero (by simpa using he.1)
    subst hm
    simp only [findAV] at hf
    split at hf
    · rename_i hok
      cases hf
      exact ⟨none, rfl, fun _ _ _ => rfl, fun _ h => absurd rfl h, .inl ⟨rfl, rfl, fun x => by simp [updAV, hok]⟩⟩
    · cases hf
  | cons e es ih =>
    intro mes n r he hf
    obtain ⟨q, u⟩ := e
    cases mes with
    | nil => simp [EntOK] at he
    | cons m mes =>
      obtain ⟨rq, ru⟩ := he.2 0 (q, u) m rfl rfl
      have ht : EntOK s es mes := ⟨by simpa using he.1, fun j a b ha hb => he.2 (j + 1) a b (by simpa using ha) (by simpa using hb)⟩
      simp only [findAV] at hf
      cases hq : keyEq kd k q with
      | none => rw [hq] at hf; cases hf
      | some b =>
        obtain ⟨h1, h2, h3, h4⟩ := keyEq_run (w := w) hkt hq rk rq
        cases b with
        | true =>
          rw [hq] at hf
          cases hf
          refine ⟨some (n, m.val), ?_, fun hk d hd => ?_, fun hk _ d hd => ?_, .inr ⟨0, m, u, rfl, by simp, rfl, ru, (h4 rfl).symm, by simp, fun x => by simp [updAV, hq]⟩⟩
          · simp [Instr.findAsking, h1]
          · simp [Instr.findNow, h2 hk d hd]
          · simp [Instr.findNow, h3 hk d hd]
        | false =>
          rw [hq] at hf
          obtain ⟨o, g1, g2, g3, g4⟩ := ih mes (n + 1) r ht hf
          refine ⟨o, ?_, fun hk d hd => ?_, fun hk _ d hd => ?_, ?_⟩
          · simp [Instr.findAsking, h1, g1]
          · simp [Instr.findNow, h2 hk d hd, g2 hk d hd]
          · simp [Instr.findNow, h3 hk d hd]
          · rcases g4 with ⟨a1, a2, a3⟩ | ⟨i, m', y, a1, a2, a3, a4, a5, a6, a7⟩
            · exact .inl ⟨a1, a2, fun x => by simp [updAV, hq, a3 x]⟩
            · exact .inr ⟨i + 1, m', y, a1, by rw [a2]; congr 2; omega, by simpa using a3, a4, a5, by simpa using a6, fun x => by simp [updAV, hq, a7 x]⟩

theorem findKey_run {P : Program} {w : World} {s : Sg} {kt : TypeId} {kd : Option Nat} (hkt : keyT P kt = some kd) {k : AV} {vk : Value} (rk : VRel s k vk) {es : List (AV × AV)} {mes : List MapEntry} {r : Option AV} (he : EntOK s es mes) (hf : findAV kd k es = some r) :
    ∃ o : Option (Nat × Value), (Instr.findKey kt vk mes).run P w = .ok o w ∧
        ((r = none ∧ o = none ∧ ∀ x, updAV kd k x es = some (es ++ [(k, x)])) ∨ ∃ i m y, r = some y ∧ o = some (i, m.val) ∧ mes[i]? = some m ∧ VRel s y m.val ∧ m.key = vk ∧ i < es.length ∧ ∀ x, updAV kd k x es = some (es.set i (k, x))) := by
  obtain ⟨o, g1, g2, g3, g4⟩ := find_run (P := P) (w := w) hkt rk es mes 0 r he hf
  have hd : ∃ d, P.underlying kt = some d := by
    unfold keyT at hkt
    split at hkt
    · exact ⟨_, by assumption⟩
    · exact ⟨_, by assumption⟩
    · cases hkt
  obtain ⟨d, hd⟩ := hd
  refine ⟨o, ?_, by simpa using g4⟩
  by_cases hk : kd = none
  · simp [Instr.findKey, run_underlying hd, g2 hk d hd]
  · cases mes with
    | nil =>
      have : o = none := by
        rcases g4 with ⟨_, a2, _⟩ | ⟨i, m, y, _, _, a3, _⟩
        · exact a2
        · simp at a3
      subst this
      simp [Instr.findKey, run_underlying hd, Instr.findNow]
    | cons m mes => simp [Instr.findKey, run_underlying hd, g3 hk (by simp) d hd, g1]
theorem findAV_ok {kd : Option Nat} {k : AV} {es : List (AV × AV)} {r : Option AV} (h : findAV kd k es = some r) : keyOK kd k = true := by
  cases es with
  | nil => simp only [findAV] at h; split at h; assumption; cases h
  | cons e es =>
    obtain ⟨q, u⟩ := e
    simp only [findAV] at h
    cases hq : keyEq kd k q with
    | none => rw [hq] at h; cases h
    | some b => exact keyEq_ok hq
theorem updAV_find {kd : Option Nat} {k x : AV} : ∀ {es es' : List (AV × AV)}, updAV kd k x es = some es' → ∃ r, findAV kd k es = some r := by
  intro es
  induction es with
  | nil => intro es' h; simp only [updAV] at h; split at h; exact ⟨none, by simp [findAV, *]⟩; cases h
  | cons e es ih =>
    intro es' h
    obtain ⟨q, u⟩ := e
    simp only [updAV] at h
    cases hq : keyEq kd k q with
    | none => rw [hq] at h; cases h
    | some b =>
      cases b with
      | true => exact ⟨some u, by simp [findAV, hq]⟩
      | false =>
        rw [hq] at h
        cases hr : updAV kd k x es with
        | none => simp [hr] at h
        | some es2 =>
          obtain ⟨r, h1⟩ := ih hr
          exact ⟨r, by simp [findAV, hq, h1]⟩

theorem checkKey_run {P : Program} {w : World} {kt : TypeId} {kd : Option Nat} {v : Value} (h : KeyIs P kt kd v) (em : Bool) : (Instr.checkKey em 10000 kt v).run P w = .ok () w := by
  cases kd with
  | none =>
    obtain ⟨⟨i, hu⟩, k, n, rfl⟩ := h
    unfold Instr.checkKey
    simp [run_underlying hu]
  | some m =>
    obtain ⟨fs, hu, hsz, hf, hp, us, rfl, hl, hi⟩ := h
    have hfor : ∀ (d : Nat) (l : List Field) (k : Nat), intFields P l k = true → k + l.length = us.length → (forIn l PUnit.unit fun (f : Field) (_ : PUnit) =>
        (if f.name ≠ "_" then do
          let v ← part f.type us.toArray f.offset
          Instr.checkKey em (d + 1) f.type v
          pure (ForInStep.yield PUnit.unit)
        else pure (ForInStep.yield PUnit.unit) : Sem (ForInStep PUnit))).run P w = .ok PUnit.unit w := by
      intro d l
      induction l with
      | nil => intro k _ _; rfl
      | cons f l ih =>
        intro k hf hk
        simp only [List.length_cons] at hk
        simp only [intFields, Bool.and_eq_true, bne_iff_ne, beq_iff_eq] at hf
        obtain ⟨⟨⟨hne, hoff⟩, hty⟩, hrest⟩ := hf
        have hku : k < us.length := by omega
        obtain ⟨kk, n, hn⟩ := hi us[k] (List.getElem_mem hku)
        have hty' : ∃ i, P.underlying f.type = some (.int i) := by
          cases hut : P.underlying f.type with
          | none => simp [hut] at hty
          | some dsc => cases dsc <;> simp [hut] at hty; exact ⟨_, rfl⟩
        obtain ⟨i, hut⟩ := hty'
        have hag : (isAgg f.type).run P w = .ok false w := aggT_run (b := false) (by simp [aggT, hut]) w
        have hpx : (part f.type us.toArray k).run P w = .ok (.int kk n) w := by simp [part, hag, hku, hn]
        have hck : (Instr.checkKey em (d + 1) f.type (.int kk n)).run P w = .ok () w := by
          unfold Instr.checkKey
          simp [run_underlying hut]
        have := ih (k + 1) hrest (by omega)
        simp only [List.forIn_cons, hne, ne_eq, not_false_eq_true, if_true, hoff, Sem.run_bind, hpx, Result.andThen_ok, hck, Sem.run_pure]
        exact this
    have hh : ∀ d, (Instr.checkKey em (d + 2) kt (.agg us.toArray)).run P w = .ok () w := by
      intro d
      unfold Instr.checkKey
      simp only [Sem.run_bind, run_underlying hu, Result.andThen_ok]
      rw [← Array.forIn_toList]
      have := hfor d fs.toList 0 hf (by simp [hsz, hl])
      simp only [this, Result.andThen_ok, Sem.run_pure]
    exact hh 9998

theorem zeroV_inv {P : Program} {t : TypeId} {z : AV} (h : zeroV P t = some z) (w : World) (s : Sg) : ∃ v, (zeroValue t).run P w = .ok v w ∧ VRel s z v := by
  unfold zeroV at h
  obtain ⟨i, hi, h⟩ := bind_some h
  obtain ⟨v, hv, h⟩ := bind_some h
  exact ⟨v, by simp [zeroValue, typeInfo, hi, hv], avConst_rel h s⟩
theorem mapT_inv {P : Program} {t k e : TypeId} {kd : Option Nat} (h : mapT P t = some (k, e, kd)) : P.underlying t = some (.map k e) ∧ keyT P k = some kd := by
  unfold mapT at h
  obtain ⟨d, hd, h⟩ := bind_some h
  split at h
  · rename_i k' e'
    cases hk : keyT P k' with
    | none => simp [hk] at h
    | some kd' => simp [hk] at h; obtain ⟨rfl, rfl, rfl⟩ := h; exact ⟨hd, hk⟩
  · cases h

theorem sF_lookup {P : Program} {o : Oper} {t k e' : TypeId} {kd : Option Nat} {z : AV} {ok : Bool} {x i : Operand} {ax ai : Arg} (ho : o.op = .lookup t x i ok) (ht : mapT P t = some (k, e', kd)) (hz : zeroV P e' = some z)
    (hx : cArg x = some ax) (hi : cArg i = some ai) : FSound P o (.lookup kd z ok ax ai) := by
  intro N s e h w0 own a w hs K hk next Q hn
  have rx := cArg_rel hs hx
  have ri := cArg_rel hs hi
  obtain ⟨hu, hkt⟩ := mapT_inv ht
  simp only [evF] at hk
  split at hk
  · rename_i b hb
    rw [hb] at rx
    obtain ⟨c, ev, hc⟩ := rx.map_inv
    obtain ⟨es, r, hes, hf, hk⟩ := hk
    obtain ⟨c', mes, ck, a1, a2, a3, a4⟩ := hs.heap.mp b es hes
    rw [hc] at a1; cases a1
    have hck := checkKey_run (w := w) (keyT_is hkt (findAV_ok hf) ri) mes.isEmpty
    obtain ⟨op, hrun, hcase⟩ := findKey_run (P := P) (w := w) hkt ri a3 hf
    obtain ⟨zv, hzr, hzv⟩ := zeroV_inv hz w s
    have hget := MapKept.run_getObj_map (P := P) a2
    rcases hcase with ⟨rfl, rfl, _⟩ | ⟨j, m, y, rfl, rfl, _, hrel, _⟩
    · cases ok
      · refine wp_pure (v := zv) ?_ (hn s _ _ w (Sg.le.refl s) hs.heap hzv hk)
        simp [execOp, ho, ev, Instr.lookup, run_underlying hu, hget, hck, hrun, hzr]
      · refine wp_pure (v := .tuple #[zv, .bool false]) ?_ (hn s _ _ w (Sg.le.refl s) hs.heap ?_ hk)
        · simp [execOp, ho, ev, Instr.lookup, run_underlying hu, hget, hck, hrun, hzr]
        · have := VRels.cons hzv (VRels.cons (.bool false) (.nil s))
          exact .tup _ [zv, .bool false] this.1 this.2
    · cases ok
      · refine wp_pure (v := m.val) ?_ (hn s _ _ w (Sg.le.refl s) hs.heap hrel hk)
        simp [execOp, ho, ev, Instr.lookup, run_underlying hu, hget, hck, hrun]
      · refine wp_pure (v := .tuple #[m.val, .bool true]) ?_ (hn s _ _ w (Sg.le.refl s) hs.heap ?_ hk)
        · simp [execOp, ho, ev, Instr.lookup, run_underlying hu, hget, hck, hrun]
        · have := VRels.cons hrel (VRels.cons (.bool true) (.nil s))
          exact .tup _ [m.val, .bool true] this.1 this.2
  · exact hk.elim

theorem sF_mlen {P : Program} {o : Oper} {t k' e' : TypeId} {x : Operand} {ax : Arg} {c : Call} (ho : o.op = .call c) (hc : c.callee = .builtin .len) (ha : c.args = #[x]) (hty : c.argTypes = #[t]) (hu : P.underlying t = some (.map k' e'))
    (hx : cArg x = some ax) : FSound P o (.mlen ax) := by
  intro N s e h w0 own a w hs K hk next Q hn
  have r := cArg_rel hs hx
  simp only [evF] at hk
  split at hk
  · rename_i b hb
    rw [hb] at r
    obtain ⟨c', ev, hc'⟩ := r.map_inv
    obtain ⟨es, hes, hl, hk⟩ := hk
    obtain ⟨c2, mes, ck, a1, a2, a3, a4⟩ := hs.heap.mp b es hes
    rw [hc'] at a1; cases a1
    have hsz : mes.size = es.length := by rw [← a3.1]; simp
    have hget := MapKept.run_getObj_map (P := P) a2
    refine wp_pure (v := .int .i64 es.length) ?_ (hn s _ _ w (Sg.le.refl s) hs.heap (.int .i64 _ ?_) hk)
    · simp [execOp, ho, resolve, hc, ha, hty, invoke, builtin, ev, Builtin.len_, run_underlying hu, goInt, hget, hsz]
    · simp only [InR, IntKind.min, IntKind.max, IntKind.signed, IntKind.bits]; simp; omega
  · exact hk.elim

/-- A new map. -/
theorem HSim.newMap {s : Sg} {h : AH} {w0 : World} {own : Nat → Prop} {w : World} (k : HSim s h w0 own w) :
    ∃ s', s.le s' ∧ HSim s' (h.putM s.nm []) w0 own (w.alloc (.map #[] 0)) ∧ s'.mb s.nm = some w.heap.size ∧ h.mp s.nm = none := by
  have hnm : s.mb s.nm = none := k.nm s.nm (Nat.le_refl _)
  have hhn : h.mp s.nm = none := by
    cases hb : h.mp s.nm with
    | none => rfl
    | some cs => obtain ⟨c, mes, t, a1, _⟩ := k.mp s.nm cs hb; rw [hnm] at a1; cases a1
  let s' : Sg := { s with mb := fun b => if b = s.nm then some w.heap.size else s.mb b, nm := s.nm + 1 }
  have hle : s.le s' := ⟨fun _ _ _ e => e, fun _ _ e => e, fun t i e => ⟨i, e, Nat.le_refl _, fun _ => rfl⟩, fun b c e => by
    show (if b = s.nm then _ else _) = _
    rw [if_neg (fun hb => by subst hb; rw [hnm] at e; cases e)]; exact e⟩
  have l := Later.alloc w (.map #[] 0)
  have k' := k.later l
  have mbne : ∀ b c, b ≠ s.nm → s'.mb b = some c → s.mb b = some c := fun b c hb e => by
    have : s'.mb b = s.mb b := if_neg hb
    rw [this] at e; exact e
  have fresh : ∀ b, h.mp b ≠ none → s.mb b ≠ some w.heap.size := fun b hb e => by
    cases hc : h.mp b with
    | none => exact hb hc
    | some es =>
      obtain ⟨c, mes, t, a1, a2, _⟩ := k.mp b es hc
      rw [e] at a1; cases a1
      have := lt_of_heap a2; omega
  refine ⟨s', hle, ?_, if_pos rfl, hhn⟩
  exact {
    fx := k'.fx
    blk := fun b cs eb => by
      obtain ⟨c, ws, t, a1, a2, a3, a4, a5, a6⟩ := k'.blk b cs eb
      exact ⟨c, ws, t, a1, a2, a3, fun j x hx => by obtain ⟨v, b1, b2, b3⟩ := a4 j x hx; exact ⟨v, b1, b2, b3.mono hle⟩, a5, a6⟩
    inj := k.inj
    tok := fun t n et => k'.tok t n et
    tokinj := k.tokinj
    tokblk := k.tokblk
    nb := k.nb
    nt := k.nt
    mp := fun b es eb => by
      simp only [AH.putM] at eb
      by_cases hb : b = s.nm
      · subst hb
        rw [if_pos rfl] at eb
        cases eb
        exact ⟨w.heap.size, #[], 0, if_pos rfl, push_new w _, ⟨rfl, by simp⟩, by simp, by simp, .inl k.size⟩
      · rw [if_neg hb] at eb
        obtain ⟨c, mes, ck, a1, a2, a3, a4⟩ := k'.mp b es eb
        exact ⟨c, mes, ck, hle.mb _ _ a1, a2, a3.mono hle, a4⟩
    minj := fun b b' c e1 e2 e3 e4 => by
      simp only [AH.putM] at e1 e2
      by_cases hb : b = s.nm
      · by_cases hb' : b' = s.nm
        · rw [hb, hb']
        · rw [if_neg hb'] at e2
          subst hb
          have : s'.mb s.nm = some w.heap.size := if_pos rfl
          rw [this] at e3; cases e3
          exact absurd (mbne b' _ hb' e4) (fresh b' e2)
      · rw [if_neg hb] at e1
        by_cases hb' : b' = s.nm
        · subst hb'
          have : s'.mb s.nm = some w.heap.size := if_pos rfl
          rw [this] at e4; cases e4
          exact absurd (mbne b _ hb e3) (fresh b e1)
        · rw [if_neg hb'] at e2
          exact k.minj b b' c e1 e2 (mbne b c hb e3) (mbne b' c hb' e4)
    nm := fun b hb => by
      have h1 : ¬ b = s.nm := by have : s.nm + 1 ≤ b := hb; omega
      show (if b = s.nm then _ else _) = _
      rw [if_neg h1]
      exact k.nm b (by have : s.nm + 1 ≤ b := hb; omega)
    frame := k'.frame
    size := k'.size
    os := k'.os
    tape := k'.tape
    output := k'.output }

theorem sS_makeMap {P : Program} {o : Oper} {t : TypeId} (ho : o.op = .makeMap t none) : SSound P o .makeMap := by
  intro N s e h w0 own a w hs K hk next Q hn
  obtain ⟨s', b1, b2, b3, b4⟩ := hs.heap.newMap
  have hrun : (execOp a.eval o).run P w = .ok (.value (.map (some w.heap.size))) (w.alloc (.map #[] 0)) := by
    simp [execOp, ho, Instr.makeMap]
  unfold Oper.wp
  rw [hrun]
  exact hn s' _ _ _ _ b1 b2 (.map s.nm w.heap.size b3) (hk s.nm b4)

/-- A map is written. -/
theorem HSim.setMap {s : Sg} {h : AH} {w0 : World} {own : Nat → Prop} {w : World} (k : HSim s h w0 own w) {b c : Nat} {es es' : List (AV × AV)} {mes mes' : Array MapEntry} {ck ck' : Nat} (hb : h.mp b = some es) (hc : s.mb b = some c)
    (hg : w.heap[c]? = some (.map mes ck)) (he : EntOK s es' mes'.toList) (h1 : ∀ e ∈ mes'.toList, e.born < ck') (h2 : (mes'.toList.map (·.born)).Nodup) :
    HSim s (h.putM b es') w0 own { w with heap := w.heap.setIfInBounds c (.map mes' ck') } := by
  obtain ⟨c', mes0, ck0, a1, a2, a3, a4, a5, a6⟩ := k.mp b es hb
  rw [hc] at a1; cases a1
  obtain ⟨g1, g2⟩ := MapKept.heap_set (o' := .map mes' ck') hg
  have halive : ∀ x, (h.putM b es').mp x ≠ none → h.mp x ≠ none := by
    intro x hx
    simp only [AH.putM] at hx
    split at hx
    · rename_i hxb; subst hxb; rw [hb]; simp
    · exact hx
  exact {
    fx := fun g o v ev => by
      obtain ⟨h1, h2⟩ := k.fx g o v ev
      refine ⟨?_, h2⟩
      rw [← h1]
      refine World.cell?_of_block (w := w) (a := ⟨g, o, none⟩) (g2 g (fun hgc => ?_))
      subst hgc
      simp only [World.cell?, hg] at h1
      cases h1
    blk := fun x cs ex => by
      obtain ⟨d, ws, t, b1, b2, b3⟩ := k.blk x cs ex
      refine ⟨d, ws, t, b1, ?_, b3⟩
      rw [g2 d (fun hdc => by rw [hdc, hg] at b2; cases b2)]
      exact b2
    inj := k.inj
    tok := fun t n et => by
      obtain ⟨i, b1, b2, b2', b3⟩ := k.tok t n et
      refine ⟨i, b1, b2, b2', b3.imp id fun ⟨c1, ws, ty, c2, c3⟩ => ⟨c1, ws, ty, ?_, c3⟩⟩
      rw [g2 _ (fun hic => by rw [hic, hg] at c2; cases c2)]
      exact c2
    tokinj := k.tokinj
    tokblk := k.tokblk
    nb := k.nb
    nt := k.nt
    mp := fun x cs ex => by
      simp only [AH.putM] at ex
      by_cases hx : x = b
      · subst hx
        rw [if_pos rfl] at ex
        cases ex
        exact ⟨c, mes', ck', hc, g1, he, h1, h2, a6⟩
      · rw [if_neg hx] at ex
        obtain ⟨d, ms, ck2, b1, b2, b3⟩ := k.mp x cs ex
        refine ⟨d, ms, ck2, b1, ?_, b3⟩
        rw [g2 d (fun hdc => hx (k.minj x b d (by rw [ex]; simp) (by rw [hb]; simp) b1 (by rw [hdc]; exact hc)))]
        exact b2
    minj := fun x y d e1 e2 e3 e4 => k.minj x y d (halive x e1) (halive y e2) e3 e4
    nm := k.nm
    frame := fun j hj ho => by
      rw [g2 j (fun hjc => by subst hjc; rcases a6 with h1 | h1; omega; exact ho h1)]
      exact k.frame j hj ho
    size := by
      have : (w.heap.setIfInBounds c (.map mes' ck')).size = w.heap.size := by simp
      show w0.heap.size ≤ (w.heap.setIfInBounds c (.map mes' ck')).size
      rw [this]; exact k.size
    os := k.os
    tape := k.tape
    output := k.output }

theorem sS_mapUpdate {P : Program} {o : Oper} {t k e' : TypeId} {kd : Option Nat} {m i x : Operand} {am ai ax : Arg} (ho : o.op = .mapUpdate t m i x) (ht : mapT P t = some (k, e', kd)) (hm : cArg m = some am) (hi : cArg i = some ai) (hx : cArg x = some ax) :
    SSound P o (.mapUpdate kd am ai ax) := by
  intro N s e h w0 own a w hs K hk next Q hn
  have rm := cArg_rel hs hm
  have ri := cArg_rel hs hi
  have rx := cArg_rel hs hx
  obtain ⟨hu, hkt⟩ := mapT_inv ht
  simp only [evS] at hk
  split at hk
  · rename_i b hb
    rw [hb] at rm
    obtain ⟨c, ev, hc⟩ := rm.map_inv
    obtain ⟨es, es', hes, hup, hk⟩ := hk
    obtain ⟨r, hf⟩ := updAV_find hup
    obtain ⟨c', mes, ck, a1, a2, a3, a4, a5, a6⟩ := hs.heap.mp b es hes
    rw [hc] at a1; cases a1
    have hki := keyT_is hkt (findAV_ok hf) ri
    have hck := checkKey_run (w := w) hki false
    obtain ⟨op, hrun, hcase⟩ := findKey_run (P := P) (w := w) hkt ri a3 hf
    have hget := MapKept.run_getObj_map (P := P) a2
    have hml : mes.size = es.length := by rw [← a3.1]; simp
    rcases hcase with ⟨rfl, rfl, hu2⟩ | ⟨j, mj, y, rfl, rfl, hmj, hrel, hkey, hlt, hu2⟩
    · rw [hu2] at hup
      cases hup
      have hset := hs.heap.setMap (es' := es ++ [(ai.ev e, ax.ev e)]) (mes' := mes.push { key := a.eval i, val := a.eval x, born := ck }) (ck' := ck + 1) hes hc a2 (by
          refine ⟨by simp [hml], fun j e m he hm' => ?_⟩
          rw [List.getElem?_append] at he
          simp only [Array.toList_push, List.getElem?_append, Array.length_toList] at hm'
          rw [hml] at hm'
          split at he
          · rw [if_pos (by assumption)] at hm'; exact a3.2 j e m he hm'
          · rw [if_neg (by assumption)] at hm'
            rename_i hjn
            obtain ⟨q, hq⟩ : ∃ q, j - es.length = q := ⟨_, rfl⟩
            rw [hq] at he hm'
            cases q with
            | zero => simp at he hm'; subst he hm'; exact ⟨ri, rx⟩
            | succ q => simp at he)
        (fun e he => by
          simp only [Array.toList_push, List.mem_append, List.mem_singleton] at he
          rcases he with he | rfl
          · have := a4 e he; omega
          · simp)
        (by
          simp only [Array.toList_push, List.map_append, List.map_cons, List.map_nil]
          refine List.nodup_append.2 ⟨a5, by simp, fun u hu v hv huv => ?_⟩
          simp only [List.mem_singleton] at hv
          subst huv hv
          obtain ⟨m', hm', hb'⟩ := List.mem_map.1 hu
          have := a4 m' hm'; omega)
      have hset2 := MapKept.run_setObj_map (P := P) (.map (mes.push { key := a.eval i, val := a.eval x, born := ck }) (ck + 1)) a2
      have hrun' : (execOp a.eval o).run P w = .ok .skip { w with heap := w.heap.setIfInBounds c (.map (mes.push { key := a.eval i, val := a.eval x, born := ck }) (ck + 1)) } := by
        simp [execOp, ho, ev, Instr.mapUpdate, run_underlying hu, hget, hck, hrun, hset2]
      unfold Oper.wp
      rw [hrun']
      exact hn s .undef undef _ _ (Sg.le.refl s) hset (.undef _) hk
    · rw [hu2] at hup
      cases hup
      have hmj' : mes[j]? = some mj := by simpa using hmj
      have hsb : Instr.sameBits 10000 (a.eval i) (a.eval i) = true := by
        cases kd with
        | none => obtain ⟨_, k, n, e1⟩ := hki; rw [e1]; simp [Instr.sameBits]
        | some q =>
          obtain ⟨fs, _, _, _, _, us, e1, _, hints⟩ := hki
          rw [e1]
          have hh : ∀ d, Instr.sameBits (d + 1) (.agg us.toArray) (.agg us.toArray) = true := fun d => by
            simp only [Instr.sameBits, beq_self_eq_true, Bool.true_and]
            exact sameBits_ints us hints d
          exact hh 9999
      have hget2 : ∀ q : Nat, (mes.modify j fun e => { e with key := a.eval i, val := a.eval x })[q]? = if q = j then some { key := a.eval i, val := a.eval x, born := mj.born } else mes[q]? := by
        intro q
        rw [Array.getElem?_modify]
        by_cases hq : j = q
        · subst hq; simp [hmj']
        · rw [if_neg hq, if_neg (fun hh => hq hh.symm)]
      have hMs : (mes.modify j fun e => { e with key := a.eval i, val := a.eval x }).size = mes.size := Array.size_modify
      have hgl : ∀ q : Nat, (mes.modify j fun e => { e with key := a.eval i, val := a.eval x }).toList[q]? = if q = j then some { key := a.eval i, val := a.eval x, born := mj.born } else mes[q]? := fun q => by rw [Array.getElem?_toList]; exact hget2 q
      have hset := hs.heap.setMap (es' := es.set j (ai.ev e, ax.ev e)) (mes' := mes.modify j fun e => { e with key := a.eval i, val := a.eval x }) (ck' := ck) hes hc a2 (by
          refine ⟨by rw [Array.length_toList, hMs, List.length_set, hml], fun q e m he hm' => ?_⟩
          rw [hgl] at hm'
          rw [List.getElem?_set] at he
          by_cases hq : q = j
          · subst hq
            rw [if_pos rfl] at hm'
            rw [if_pos rfl, if_pos hlt] at he
            cases hm'; cases he
            exact ⟨ri, rx⟩
          · rw [if_neg hq] at hm'
            rw [if_neg (fun hh => hq hh.symm)] at he
            exact a3.2 q e m he (by rw [Array.getElem?_toList]; exact hm'))
        (fun e he => by
          obtain ⟨q, hq⟩ := List.getElem?_of_mem he
          rw [hgl] at hq
          by_cases hqj : q = j
          · rw [if_pos hqj] at hq
            rw [← Option.some.inj hq]
            exact a4 mj (List.mem_of_getElem? hmj)
          · rw [if_neg hqj] at hq
            exact a4 _ (List.mem_of_getElem? (by rw [Array.getElem?_toList]; exact hq)))
        (by
          have : (mes.modify j fun e => { e with key := a.eval i, val := a.eval x }).toList.map (·.born) = mes.toList.map (·.born) := by
            apply List.ext_getElem?
            intro q
            rw [List.getElem?_map, List.getElem?_map, hgl, Array.getElem?_toList]
            by_cases hqj : q = j
            · subst hqj; rw [if_pos rfl, hmj']; rfl
            · rw [if_neg hqj]
          rw [this]; exact a5)
      have hset2 := MapKept.run_setObj_map (P := P) (.map (mes.modify j fun e => { e with key := a.eval i, val := a.eval x }) ck) a2
      have hst : (Instr.keyThatStays (a.eval i) (a.eval i)).run P w = .ok (a.eval i) w := by simp [Instr.keyThatStays, hsb]
      have hrun' : (execOp a.eval o).run P w = .ok .skip { w with heap := w.heap.setIfInBounds c (.map (mes.modify j fun e => { e with key := a.eval i, val := a.eval x }) ck) } := by
        simp [execOp, ho, ev, Instr.mapUpdate, run_underlying hu, hget, hck, hrun, hmj', hkey, hst, hset2]
      unfold Oper.wp
      rw [hrun']
      exact hn s .undef undef _ _ (Sg.le.refl s) hset (.undef _) hk
  · exact hk.elim
end Go.Abs
