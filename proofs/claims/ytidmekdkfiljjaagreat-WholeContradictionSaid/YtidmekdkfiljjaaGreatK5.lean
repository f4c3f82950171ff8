/- Soundness of the operations that turn nothing, continued: memory that is read. No condition. -/
import Derived.Test.YtidmekdkfiljjaaGreatK4
import Derived.Laws.StructEq
namespace Go.Abs
open Go

theorem add_eq {ad : Addr} (h : ad.spot = none) (j : Nat) : ad.add j = ⟨ad.block, ad.off + j, none⟩ := by
  unfold Addr.add
  split
  · rename_i h0; subst h0; cases ad; simp_all
  · cases ad; simp_all

theorem bind_some {α β : Type} {x : Option α} {f : α → Option β} {b : β} (h : (x >>= f) = some b) : ∃ a, x = some a ∧ f a = some b := by
  cases x with
  | none => cases h
  | some a => exact ⟨a, rfl, h⟩

theorem sizeT_run {P : Program} {t : TypeId} {n : Nat} (h : sizeT P t = some n) (w : World) : (sizeOf t).run P w = .ok n w := by
  unfold sizeT at h
  cases hi : P.info? t with
  | none => simp [hi] at h
  | some i => simp [hi] at h; simp [sizeOf, typeInfo, hi, h]
theorem aggT_run {P : Program} {t : TypeId} {b : Bool} (h : aggT P t = some b) (w : World) : (isAgg t).run P w = .ok b w := by
  unfold aggT at h
  cases hi : P.underlying t with
  | none => simp [hi] at h
  | some d =>
    simp [hi] at h
    simp only [isAgg, Sem.run_bind, run_underlying hi, Result.andThen_ok]
    cases d <;> simp_all
theorem szT_inv {P : Program} {t : TypeId} {sz : Option Nat} (h : szT P t = some sz) : ∃ a n, aggT P t = some a ∧ sizeT P t = some n ∧ sz = if a then some n else none := by
  unfold szT at h
  obtain ⟨a, h1, h⟩ := bind_some h
  obtain ⟨n, h2, h⟩ := bind_some h
  exact ⟨a, n, h1, h2, by cases h; rfl⟩

/-- Cells that stand at an address are read. -/
theorem run_load_cells {P : Program} {w : World} {t : TypeId} {sz : Option Nat} (h : szT P t = some sz) {ad : Addr} {s : Sg} {cells : List AV} {vs : List Value}
    (hr : VRels s cells vs) (hc : ∀ j v, vs[j]? = some v → w.cell? (ad.add j) = some v) {K : AV → Prop} (hk : evLoad sz cells K) :
    ∃ v x, (loadVar t ad).run P w = .ok v w ∧ VRel s x v ∧ K x := by
  obtain ⟨a, n, ha, hn, rfl⟩ := szT_inv h
  cases a
  · simp only [evLoad] at hk
    obtain ⟨x, hx, hk⟩ := hk
    obtain ⟨v, hv, hrel⟩ := hr.at_ hx
    have := hc 0 v hv
    refine ⟨v, x, ?_, hrel, hk⟩
    have h0 : ad.add 0 = ad := by simp [Addr.add]
    rw [h0] at this
    simp [loadVar, aggT_run ha, this]
  · simp only [evLoad] at hk
    obtain ⟨hle, hk⟩ := hk
    have hlen : (vs.take n).length = n := by rw [List.length_take, hr.1]; omega
    refine ⟨.agg (vs.take n).toArray, .st (cells.take n), ?_, .st _ _ (hr.take n).1 (hr.take n).2, hk⟩
    have hl := run_loadCells_list (P := P) w ad (vs.take n) (fun j v hv => hc j v (by
      rw [List.getElem?_take] at hv; split at hv
      · exact hv
      · cases hv))
    rw [hlen] at hl
    simp [loadVar, aggT_run ha, sizeT_run hn, hl]

/-- The cells of a block that may be written. -/
theorem blk_cells {s : Sg} {w0 w : World} {own : Nat → Prop} {b off : Nat} {cs : List AV} {v : Value} (hb : BlkOK s w0 own w b cs) (hv : VRel s (.ptr b off) v) :
    ∃ c vs, v = .pointer (some ⟨c, off, none⟩) ∧ VRels s (cs.drop off) vs ∧ ∀ j u, vs[j]? = some u → w.cell? ((⟨c, off, none⟩ : Addr).add j) = some u := by
  cases hv with
  | ptr _ _ c hc =>
    obtain ⟨c', vs, e, h1, h2, h3, h4, _, _⟩ := hb
    have : c' = c := by rw [hc] at h1; exact (Option.some.inj h1).symm
    subst this
    refine ⟨c', (vs.toList.take cs.length).drop off, rfl, ?_, ?_⟩
    · refine VRels.drop ⟨by simp; omega, fun j x v hx hv => ?_⟩ off
      obtain ⟨v', hv', _, hr⟩ := h4 j x hx
      rw [List.getElem?_take] at hv
      split at hv
      · have : vs[j]? = some v := by simpa using hv
        rw [hv'] at this; cases this; exact hr
      · cases hv
    · intro j u hu
      rw [add_eq rfl]
      simp only
      rw [List.getElem?_drop, List.getElem?_take] at hu
      split at hu
      · simp only [World.cell?, h2]
        simpa using hu
      · cases hu

theorem sF_load {P : Program} {o : Oper} {t : TypeId} {x : Operand} {ax : Arg} {sz : Option Nat} (ho : o.op = .load t x) (hz : szT P t = some sz) (hx : cArg x = some ax) : FSound P o (.load sz ax) := by
  intro N s e h w0 own a w hs K hk next Q hn
  have r := cArg_rel hs hx
  simp only [evF] at hk
  split at hk
  · rename_i b off hb
    rw [hb] at r
    obtain ⟨cs, hcs, hk⟩ := hk
    obtain ⟨c, vs, ev, hr, hc⟩ := blk_cells (hs.heap.blk b cs hcs) r
    obtain ⟨v, z, hrun, hz', hkz⟩ := run_load_cells (P := P) hz hr hc hk
    exact wp_pure (v := v) (by simp [execOp, ho, ev, Instr.loadAt, Instr.sureAddr, hrun]) (hn s z v w (Sg.le.refl s) hs.heap hz' hkz)
  · rename_i cs hb
    rw [hb] at r
    generalize hv : a.eval x = u at r
    cases r with
    | sptr _ ad vs hlen hrel hspot hfx =>
      obtain ⟨v, z, hrun, hz', hkz⟩ := run_load_cells (P := P) (w := w) hz (vs := vs) ⟨hlen, hrel⟩ (fun j u hu => by rw [add_eq hspot]; exact (hs.heap.fx _ _ _ (hfx j u hu)).1) hk
      exact wp_pure (v := v) (by simp [execOp, ho, hv, Instr.loadAt, Instr.sureAddr, hrun]) (hn s z v w (Sg.le.refl s) hs.heap hz' hkz)
  · exact hk.elim

theorem fieldT_inv {P : Program} {t : TypeId} {f : Nat} {fd : Field} (h : fieldT P t f = some fd) : ∃ fs, P.underlying t = some (.struct fs) ∧ fs[f]? = some fd := by
  unfold fieldT at h
  obtain ⟨d, h1, h⟩ := bind_some h
  cases d <;> first | (cases h; done) | exact ⟨_, h1, h⟩

theorem VRel.ptr_inv {s : Sg} {b off : Nat} {v : Value} (h : VRel s (.ptr b off) v) : ∃ c, v = .pointer (some ⟨c, off, none⟩) ∧ s.blk b = some c := by
  cases h with | ptr _ _ c h => exact ⟨c, rfl, h⟩
theorem VRel.sptr_inv {s : Sg} {cs : List AV} {v : Value} (h : VRel s (.sptr cs) v) : ∃ ad vs, v = .pointer (some ad) ∧ ad.spot = none ∧ VRels s cs vs ∧ ∀ j u, vs[j]? = some u → s.fx ad.block (ad.off + j) = some u := by
  cases h with | sptr _ ad vs h1 h2 h3 h4 => exact ⟨ad, vs, rfl, h3, ⟨h1, h2⟩, h4⟩
/-- A pointer into what is fixed, moved on. -/
theorem sptr_move {s : Sg} {cs : List AV} {ad : Addr} {vs : List Value} (hs : ad.spot = none) (hr : VRels s cs vs) (hf : ∀ j u, vs[j]? = some u → s.fx ad.block (ad.off + j) = some u) (k : Nat) :
    VRel s (.sptr (cs.drop k)) (.pointer (some (ad.add k))) := by
  refine .sptr _ _ (vs.drop k) (hr.drop k).1 (hr.drop k).2 (by rw [add_eq hs]) (fun j v hv => ?_)
  rw [List.getElem?_drop] at hv
  have := hf _ _ hv
  rw [add_eq hs]
  simpa [Nat.add_assoc] using this

theorem sF_fieldAddr {P : Program} {o : Oper} {t : TypeId} {x : Operand} {ax : Arg} {f : Nat} {fd : Field} {n : Nat} (ho : o.op = .fieldAddr t x f) (hf : fieldT P t f = some fd) (hz : sizeT P fd.type = some n)
    (hn0 : n ≠ 0) (hx : cArg x = some ax) : FSound P o (.fieldAddr fd.offset ax) := by
  intro N s e h w0 own a w hs K hk next Q hn
  have r := cArg_rel hs hx
  obtain ⟨fs, hu, hfs⟩ := fieldT_inv hf
  simp only [evF] at hk
  split at hk
  · rename_i b off hb
    rw [hb] at r
    obtain ⟨c, ev, hc⟩ := r.ptr_inv
    refine wp_pure (v := .pointer (some ⟨c, off + fd.offset, none⟩)) ?_ (hn s _ _ w (Sg.le.refl s) hs.heap (.ptr b _ c hc) hk)
    simp [execOp, ho, ev, Instr.fieldAt, run_underlying hu, hfs, Instr.sureAddr, fieldPlace, sizeT_run hz, hn0, Addr.add_lit]
  · rename_i cs hb
    rw [hb] at r
    obtain ⟨ad, vs, ev, hspot, hr, hfx⟩ := r.sptr_inv
    refine wp_pure (v := .pointer (some (ad.add fd.offset))) ?_ (hn s _ _ w (Sg.le.refl s) hs.heap (sptr_move hspot hr hfx _) hk)
    simp [execOp, ho, ev, Instr.fieldAt, run_underlying hu, hfs, Instr.sureAddr, fieldPlace, sizeT_run hz, hn0]
  · exact hk.elim

theorem VRel.st_inv {s : Sg} {cs : List AV} {v : Value} (h : VRel s (.st cs) v) : ∃ vs, v = .agg vs.toArray ∧ VRels s cs vs := by
  cases h with | st _ vs h1 h2 => exact ⟨vs, rfl, h1, h2⟩

theorem sF_field {P : Program} {o : Oper} {t : TypeId} {x : Operand} {ax : Arg} {f : Nat} {fd : Field} {sz : Option Nat} (ho : o.op = .field t x f) (hf : fieldT P t f = some fd) (hz : szT P fd.type = some sz)
    (hx : cArg x = some ax) : FSound P o (.field fd.offset sz ax) := by
  intro N s e h w0 own a w hs K hk next Q hn
  have r := cArg_rel hs hx
  obtain ⟨fs, hu, hfs⟩ := fieldT_inv hf
  obtain ⟨ag, n, ha, hsz, rfl⟩ := szT_inv hz
  simp only [evF] at hk
  split at hk
  · rename_i cs hb
    rw [hb] at r
    obtain ⟨vs, ev, hr⟩ := r.st_inv
    cases ag
    · simp only [evLoad] at hk
      obtain ⟨z, hz', hk⟩ := hk
      rw [List.getElem?_drop] at hz'
      obtain ⟨v, hv, hrel⟩ := hr.at_ hz'
      refine wp_pure (v := v) ?_ (hn s z v w (Sg.le.refl s) hs.heap hrel hk)
      have hv' : vs[fd.offset]? = some v := by simpa using hv
      simp [execOp, ho, ev, Instr.field, run_underlying hu, hfs, part, aggT_run ha, asAgg, hv']
    · simp only [evLoad] at hk
      obtain ⟨hle, hk⟩ := hk
      have hv := (hr.drop fd.offset).take n
      refine wp_pure (v := .agg ((vs.drop fd.offset).take n).toArray) ?_ (hn s _ _ w (Sg.le.refl s) hs.heap (.st _ _ hv.1 hv.2) hk)
      simp [execOp, ho, ev, Instr.field, run_underlying hu, hfs, part, aggT_run ha, asAgg, sizeT_run hsz]
  · exact hk.elim

/-- What is known of a slice's value. -/
theorem VRel.sl_inv {s : Sg} {nl : Bool} {n : Nat} {cs : List AV} {tl : Tail} {v : Value} (h : VRel s (.sl nl n cs tl) v) :
    ∃ a cap vs, v = .slice a n cap ∧ VRels s cs vs ∧ (∀ j u, vs[j]? = some u → ∃ ad : Addr, a = some ad ∧ ad.spot = none ∧ s.fx ad.block (ad.off + j) = some u) ∧ nl = a.isNone ∧ (a = none → n = 0 ∧ cap = 0) ∧
      (∀ ad, a = some ad → cap ≠ 0 → ad.spot = none) ∧ n ≤ cap ∧ cap ≤ 9223372036854775807 ∧ TailOK s tl a n cap := by
  cases h with | sl _ _ _ _ a cap vs h1 h2 h3 h4 h5 h6 h7 h8 h9 => exact ⟨a, cap, vs, rfl, ⟨h1, h2⟩, h3, h4, h5, h6, h7, h8, h9⟩
theorem VRel.msl_inv {s : Sg} {b off n : Nat} {cap : Option Nat} {v : Value} (h : VRel s (.msl b off n cap) v) :
    ∃ c k, v = .slice (some ⟨c, off, none⟩) n k ∧ s.blk b = some c ∧ n ≤ k ∧ k ≤ 9223372036854775807 ∧ ∀ q, cap = some q → q = k := by
  cases h with | msl _ _ _ _ c k h1 h2 h3 h4 => exact ⟨c, k, rfl, h1, h2, h3, h4⟩

theorem VRel.map_inv {s : Sg} {b : Nat} {v : Value} (h : VRel s (.map b) v) : ∃ c, v = .map (some c) ∧ s.mb b = some c := by
  cases h with | map _ c h => exact ⟨c, rfl, h⟩

theorem sF_indexAddr {P : Program} {o : Oper} {t e' : TypeId} {x i : Operand} {ax ai : Arg} {n : Nat} (ho : o.op = .indexAddr t x i) (hu : P.underlying t = some (.slice e')) (hz : sizeT P e' = some n)
    (hx : cArg x = some ax) (hi : cArg i = some ai) : FSound P o (.indexAddr n ax ai) := by
  intro N s e h w0 own a w hs K hk next Q hn
  have r := cArg_rel hs hx
  have ri := cArg_rel hs hi
  simp only [evF] at hk
  split at hk
  · rename_i nl len cs tl k j hb hj
    rw [hb] at r; rw [hj] at ri
    obtain ⟨A, cap, vs, ev, hr, hfx, hnil, hnone, hspot, hcap, hmax, _⟩ := r.sl_inv
    obtain ⟨ei, _⟩ := ri.int_inv
    obtain ⟨h0, hlt, hk⟩ := hk
    cases hA : A with
    | none => have := (hnone hA).1; omega
    | some ad =>
      subst hA
      have hsp := hspot ad rfl (by omega)
      refine wp_pure (v := .pointer (some (ad.add (j.toNat * n)))) ?_ (hn s _ _ w (Sg.le.refl s) hs.heap (sptr_move hsp hr (fun j' u hu' => ?_) _) hk)
      · simp [execOp, ho, ev, ei, Instr.indexAt, asIntOf, run_underlying hu, h0, hlt, sizeT_run hz]
      · obtain ⟨ad', e1, _, e3⟩ := hfx j' u hu'
        cases e1; exact e3
  · rename_i b off len cap k j hb hj
    rw [hb] at r; rw [hj] at ri
    obtain ⟨c, k', ev, hc, _, _, _⟩ := r.msl_inv
    obtain ⟨ei, _⟩ := ri.int_inv
    obtain ⟨h0, hlt, hk⟩ := hk
    refine wp_pure (v := .pointer (some ⟨c, off + j.toNat * n, none⟩)) ?_ (hn s _ _ w (Sg.le.refl s) hs.heap (.ptr b _ c hc) hk)
    simp [execOp, ho, ev, ei, Instr.indexAt, asIntOf, run_underlying hu, h0, hlt, sizeT_run hz, Addr.add_lit]
  · exact hk.elim

theorem sF_indexArr {P : Program} {o : Oper} {t e' : TypeId} {x i : Operand} {ax ai : Arg} {n len : Nat} (ho : o.op = .indexAddr t x i) (hu : P.underlying t = some (.array len e')) (hz : sizeT P e' = some n)
    (hx : cArg x = some ax) (hi : cArg i = some ai) : FSound P o (.indexArr len n ax ai) := by
  intro N s e h w0 own a w hs K hk next Q hn
  have r := cArg_rel hs hx
  have ri := cArg_rel hs hi
  simp only [evF] at hk
  split at hk
  · rename_i b off k j hb hj
    rw [hb] at r; rw [hj] at ri
    obtain ⟨c, ev, hc⟩ := r.ptr_inv
    obtain ⟨ei, _⟩ := ri.int_inv
    obtain ⟨h0, hlt, hk⟩ := hk
    refine wp_pure (v := .pointer (some ⟨c, off + j.toNat * n, none⟩)) ?_ (hn s _ _ w (Sg.le.refl s) hs.heap (.ptr b _ c hc) hk)
    simp [execOp, ho, ev, ei, Instr.indexAt, Instr.sureAddr, asIntOf, run_underlying hu, h0, hlt, sizeT_run hz, Addr.add_lit]
  · rename_i cs k j hb hj
    rw [hb] at r; rw [hj] at ri
    obtain ⟨ad, vs, ev, hspot, hr, hfx⟩ := r.sptr_inv
    obtain ⟨ei, _⟩ := ri.int_inv
    obtain ⟨h0, hlt, hk⟩ := hk
    refine wp_pure (v := .pointer (some (ad.add (j.toNat * n)))) ?_ (hn s _ _ w (Sg.le.refl s) hs.heap (sptr_move hspot hr hfx _) hk)
    simp [execOp, ho, ev, ei, Instr.indexAt, Instr.sureAddr, asIntOf, run_underlying hu, h0, hlt, sizeT_run hz]
  · exact hk.elim

theorem sF_un {P : Program} {o : Oper} {t : TypeId} {op : UnOp} {x : Operand} {ax : Arg} (ho : o.op = .unOp op t x) (hx : cArg x = some ax) : FSound P o (.un op ax) := by
  intro N s e h w0 own a w hs K hk next Q hn
  have r := cArg_rel hs hx
  simp only [evF, evUn] at hk
  split at hk
  · rename_i b hb
    rw [hb] at r
    have ev := r.bool_inv
    exact wp_pure (v := .bool (!b)) (by simp [execOp, ho, ev, Op.unary]) (hn s _ _ w (Sg.le.refl s) hs.heap (.bool _) hk)
  · rename_i k n hb
    rw [hb] at r
    obtain ⟨ev, _⟩ := r.int_inv
    refine wp_pure (v := .int k (-n)) (by simp [execOp, ho, ev, Op.unary, Op.intArith, wrap_in hk.1]) (hn s _ _ w (Sg.le.refl s) hs.heap (.int k _ hk.1) hk.2)
  · rename_i k n hb
    rw [hb] at r
    obtain ⟨ev, _⟩ := r.int_inv
    refine wp_pure (v := .int k (bitop .xor k (if k.signed then -1 else k.max) n)) ?_ (hn s _ _ w (Sg.le.refl s) hs.heap (.int k _ (wrap_inR k _)) hk)
    simp [execOp, ho, ev, Op.unary, Op.intBits, bitop]
  · exact hk.elim

theorem sF_conv {P : Program} {o : Oper} {t d : TypeId} {x : Operand} {ax : Arg} {k0 k : IntKind} (ho : o.op = .convert t d x) (h1 : P.underlying t = some (.int k0)) (h2 : P.underlying d = some (.int k)) (hx : cArg x = some ax) :
    FSound P o (.conv k ax) := by
  intro N s e h w0 own a w hs K hk next Q hn
  have r := cArg_rel hs hx
  simp only [evF] at hk
  split at hk
  · rename_i k' n hb
    rw [hb] at r
    obtain ⟨ev, _⟩ := r.int_inv
    refine wp_pure (v := .int k (k.wrap n)) ?_ (hn s _ _ w (Sg.le.refl s) hs.heap (.int k _ (wrap_inR k _)) hk)
    simp [execOp, ho, ev, convert, run_underlying h1, run_underlying h2, Conv.intToInt]
  · exact hk.elim

theorem sF_bin {P : Program} {o : Oper} {t t' : TypeId} {op : BinOp} {x y : Operand} {ax ay : Arg} (ho : o.op = .binOp op t x y t') (hx : cArg x = some ax) (hy : cArg y = some ay) : FSound P o (.bin op ax ay) := by
  intro N s e h w0 own a w hs K hk next Q hn
  have rx := cArg_rel hs hx
  have ry := cArg_rel hs hy
  simp only [evF, evBin] at hk
  split at hk
  · rename_i k p k' q hb hc
    rw [hb] at rx; rw [hc] at ry
    obtain ⟨e1, r1⟩ := rx.int_inv
    obtain ⟨e2, _⟩ := ry.int_inv
    obtain ⟨v, z, hrun, hz, hkz⟩ := run_int_ops (P := P) w op t x y k k' p q K hk r1 s
    refine wp_pure (v := v) ?_ (hn s z v w (Sg.le.refl s) hs.heap hz hkz)
    simp only [execOp, ho, e1, e2]
    rw [Sem.run_bind, hrun]; rfl
  · rename_i p q hb hc
    rw [hb] at rx; rw [hc] at ry
    have e1 := rx.str_inv
    have e2 := ry.str_inv
    split at hk
    · exact wp_pure (v := .bool (p.toList == q.toList)) (by simp [execOp, ho, e1, e2, eqGuard_at_string, binOp, Op.stringOp]) (hn s _ _ w (Sg.le.refl s) hs.heap (.bool _) hk)
    · exact wp_pure (v := .bool (!(p.toList == q.toList))) (by simp [execOp, ho, e1, e2, eqGuard_at_string, binOp, Op.stringOp]) (hn s _ _ w (Sg.le.refl s) hs.heap (.bool _) hk)
    · exact wp_pure (v := .bool (Op.bytesLess p.toList q.toList)) (by simp [execOp, ho, e1, e2, eqGuard_at_string, binOp, Op.stringOp]) (hn s _ _ w (Sg.le.refl s) hs.heap (.bool _) hk)
    · exact hk.elim
  · exact hk.elim
end Go.Abs
