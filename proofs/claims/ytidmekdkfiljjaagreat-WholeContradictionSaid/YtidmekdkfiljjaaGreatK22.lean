/- Shapes of the values of this seat, and small laws of them. No condition. -/
import Derived.Test.YtidmekdkfiljjaaGreatK21
namespace Go.Abs
open Go

abbrev I (n : Int) : AV := .int .i64 n
def i64s (xs : List Int) : List AV := xs.map fun n => AV.int .i64 n
def prs (e : List (Int × Int)) : List AV := e.flatMap fun p => [AV.int .i64 p.1, AV.int .i64 p.2]
theorem i64s_len (xs : List Int) : (i64s xs).length = xs.length := by simp [i64s]
theorem prs_len (e : List (Int × Int)) : (prs e).length = e.length * 2 := by
  induction e with
  | nil => rfl
  | cons p e ih =>
    have : prs (p :: e) = AV.int .i64 p.1 :: AV.int .i64 p.2 :: prs e := rfl
    rw [this]; simp only [List.length_cons, ih]; omega
theorem i64s_append (xs ys : List Int) : i64s (xs ++ ys) = i64s xs ++ i64s ys := by simp [i64s]
theorem prs_append (xs ys : List (Int × Int)) : prs (xs ++ ys) = prs xs ++ prs ys := by simp [prs]
theorem i64s_one (n : Int) : i64s [n] = [AV.int .i64 n] := rfl
theorem prs_one (p : Int × Int) : prs [p] = [AV.int .i64 p.1, AV.int .i64 p.2] := rfl

theorem getD_drop {α : Type} (l : List α) (d : α) {i : Nat} (h : i < l.length) : l.drop i = l.getD i d :: l.drop (i + 1) := by
  rw [List.drop_eq_getElem_cons h]; simp [List.getD, h]
theorem i64s_drop {xs : List Int} {i : Nat} (h : i < xs.length) : (i64s xs).drop i = AV.int .i64 (xs.getD i 0) :: (i64s xs).drop (i + 1) := by
  have : (i64s xs).drop i = i64s (xs.drop i) := by simp [i64s, List.map_drop]
  rw [this, getD_drop xs 0 h]
  simp [i64s, List.map_drop]
theorem prs_drop {e : List (Int × Int)} : ∀ {i : Nat}, i < e.length → (prs e).drop (i * 2) = AV.int .i64 (e.getD i (0, 0)).1 :: AV.int .i64 (e.getD i (0, 0)).2 :: (prs e).drop (i * 2 + 2) := by
  induction e with
  | nil => intro i h; simp at h
  | cons p e ih =>
    intro i h
    have : prs (p :: e) = AV.int .i64 p.1 :: AV.int .i64 p.2 :: prs e := rfl
    cases i with
    | zero => rfl
    | succ i =>
      rw [this, show (i + 1) * 2 = i * 2 + 1 + 1 by omega, List.drop_succ_cons, List.drop_succ_cons]
      rw [ih (i := i) (by simpa using h)]
      simp
theorem i64s_take (xs : List Int) (n : Nat) : (i64s xs).take n = i64s (xs.take n) := by simp [i64s, List.map_take]
theorem AH.blk_put (h : AH) (b : Nat) (cs : List AV) : (h.put b cs).blk b = some cs := if_pos rfl
theorem AH.blk_put_ne (h : AH) {b c : Nat} (cs : List AV) (hbc : c ≠ b) : (h.put b cs).blk c = h.blk c := if_neg hbc
theorem AH.put_put (h : AH) (b : Nat) (x y : List AV) : (h.put b x).put b y = h.put b y := by
  simp only [AH.put, AH.mk.injEq, and_true]
  funext c
  by_cases hc : c = b <;> simp [hc]

theorem inR64 {n : Int} : InR .i64 n ↔ -9223372036854775808 ≤ n ∧ n ≤ 9223372036854775807 := by
  simp [InR, IntKind.min, IntKind.max, IntKind.signed, IntKind.bits]
/-- What is known of an argument. -/
theorem wf_len {n : Nat} {nl : Bool} {m : Nat} {cs : List AV} {tl : Tail} (h : AV.wfn n (.sl nl m cs tl)) : m ≤ 9223372036854775807 := by
  cases n with
  | zero => exact h
  | succ n => exact h.1
theorem wf_int {n : Nat} {k : IntKind} {x : Int} (h : AV.wfn n (.int k x)) : InR k x := by
  cases n with
  | zero => exact h
  | succ n => exact h.1
theorem wf_i64s {n : Nat} {nl : Bool} {m : Nat} {xs : List Int} {tl : Tail} (h : AV.wfn (n + 1) (.sl nl m (i64s xs) tl)) : ∀ x ∈ xs, InR .i64 x := fun x hx =>
  wf_int (n := n) (h.2 (.int .i64 x) (by simp only [AV.subs, i64s, List.mem_map]; exact ⟨x, hx, rfl⟩))
theorem mem_getD {α : Type} {l : List α} {d : α} {i : Nat} (h : i < l.length) : l.getD i d ∈ l := by simp [List.getD, h]

theorem ret_le {r v : AV} {h h0 : AH} (hh : h0.le h) (hr : AV.le v r) : ∃ r' h', RGh r h r' h' ∧ r' = v ∧ h' = h0 := ⟨v, h0, .forget hr hh, rfl, rfl⟩
theorem ret_hb {r v : AV} {h h0 : AH} (hh : h0.le h) (hr : r = v) : ∃ r' h', RGh r h r' h' ∧ r' = v ∧ h' = h0 := ret_le hh (AV.le.of_eq hr.symm)

theorem AH.tok_setTok (h : AH) (t n m : Nat) : (h.setTok t n m).tok t = some (n, m) := if_pos rfl
theorem AH.blk_setTok (h : AH) (t n m : Nat) : (h.setTok t n m).blk = h.blk := rfl
theorem AH.tok_put (h : AH) (b : Nat) (cs : List AV) : (h.put b cs).tok = h.tok := rfl
theorem AH.mp_putM (h : AH) (b : Nat) (es : List (AV × AV)) : (h.putM b es).mp b = some es := if_pos rfl
theorem AH.mp_putM_ne (h : AH) {b c : Nat} (es : List (AV × AV)) (hbc : c ≠ b) : (h.putM b es).mp c = h.mp c := if_neg hbc
theorem AH.blk_putM (h : AH) (b : Nat) (es : List (AV × AV)) : (h.putM b es).blk = h.blk := rfl
theorem AH.tok_putM (h : AH) (b : Nat) (es : List (AV × AV)) : (h.putM b es).tok = h.tok := rfl
theorem AH.mp_put (h : AH) (b : Nat) (cs : List AV) : (h.put b cs).mp = h.mp := rfl
theorem AH.mp_setTok (h : AH) (t n m : Nat) : (h.setTok t n m).mp = h.mp := rfl
theorem AH.putM_put (h : AH) (b c : Nat) (cs : List AV) (es : List (AV × AV)) : (h.putM c es).put b cs = (h.put b cs).putM c es := rfl
theorem AH.putM_setTok (h : AH) (c : Nat) (es : List (AV × AV)) (t n m : Nat) : (h.putM c es).setTok t n m = (h.setTok t n m).putM c es := rfl
theorem AH.putM_putM (h : AH) (b : Nat) (x y : List (AV × AV)) : (h.putM b x).putM b y = h.putM b y := by
  simp only [AH.putM, AH.mk.injEq, true_and]
  funext c
  by_cases hc : c = b <;> simp [hc]
theorem AH.put_setTok (h : AH) (b : Nat) (cs : List AV) (t n m : Nat) : (h.put b cs).setTok t n m = (h.setTok t n m).put b cs := rfl
theorem AH.setTok_setTok (h : AH) (t n m n' m' : Nat) : (h.setTok t n m).setTok t n' m' = h.setTok t n' m' := by
  simp only [AH.setTok, AH.mk.injEq, true_and, and_true]
  funext c
  by_cases hc : c = t <;> simp [hc]
theorem AH.ne_of_put {h : AH} {b c : Nat} {cs : List AV} (hc : (h.put b cs).blk c = none) : c ≠ b := fun hh => by subst hh; rw [AH.blk_put] at hc; cases hc
theorem AH.none_put {h : AH} {b c : Nat} {cs : List AV} (hc : (h.put b cs).blk c = none) : h.blk c = none := by
  rwa [AH.blk_put_ne _ _ (AH.ne_of_put hc)] at hc
theorem AV.le.tup2 {a b c d : AV} (h : AV.le a b) (k : AV.le c d) : AV.le (.tup [a, c]) (.tup [b, d]) := by
  intro s v hv
  obtain ⟨vs, rfl, hr⟩ := hv.tup_inv
  obtain ⟨h1, h2⟩ := hr
  obtain ⟨x, y, rfl⟩ : ∃ x y, vs = [x, y] := by
    match vs, h1 with
    | [x, y], _ => exact ⟨x, y, rfl⟩
  exact .tup [a, c] [x, y] rfl (VRels.cons (h s x (h2 0 b x rfl rfl)) (VRels.cons (k s y (h2 1 d y rfl rfl)) (.nil s))).2

/-- A full slice is a growing one. -/
theorem awp_tok {P : Program} {g : Cfg} {Q : Exit → Env → AH → Prop} {e : Env} {h : AH} {c : C} (k size : Nat) {nl : Bool} {n : Nat} {cs : List AV} (he : e.get k = .sl nl n cs .full)
    (hk : ∀ t, h.tok t = none → AWP P g c Q ((k, .sl nl n cs (.tok t)) :: e) (h.setTok t n size)) : AWP P g c Q e h := by
  intro code hc s w0 own a w hs
  obtain ⟨s', b1, b2, b3, b4⟩ := hs.heap.fullTok n size
  have hs' : ASim g.N s' ((k, .sl nl n cs (.tok s.nt)) :: e) (h.setTok s.nt n size) w0 own a w := by
    refine ⟨b2, hs.defers, hs.size, fun u => ?_⟩
    rw [Env.get_cons]
    split
    · rename_i hku
      subst hku
      have hr := hs.rel k
      rw [he] at hr
      obtain ⟨A, cap, vs, ev, hr, hfx, hnil, hnone, hspot, hcap, hmax, htl⟩ := hr.sl_inv
      have hcn : cap = n := htl
      rw [ev]
      exact .sl nl n cs (.tok s.nt) A cap vs hr.1 (fun j x v hx hv => (hr.2 j x v hx hv).mono b1) (fun j v hv => by obtain ⟨ad, e1, e2, e3⟩ := hfx j v hv; exact ⟨ad, e1, e2, b1.fx _ _ _ e3⟩) hnil hnone hspot hcap hmax
        ⟨_, b3, Nat.le_refl _, fun _ => ⟨hcn, fun hh => absurd hh (Nat.lt_irrefl _)⟩⟩
    · exact (hs.rel u).mono b1
  exact wp_mono (hk s.nt b4 code hc s' w0 own a w hs') fun _ _ _ ⟨s'', e'', h'', m1, m2, m3⟩ => ⟨s'', e'', h'', b1.trans m1, m2, m3⟩

/-! ### The rules of a walk, in one set -/
theorem dec_and (p q : Prop) [Decidable p] [Decidable q] : (decide p && decide q) = decide (p ∧ q) := (Bool.decide_and p q).symm
theorem dec_or (p q : Prop) [Decidable p] [Decidable q] : (decide p || decide q) = decide (p ∨ q) := (Bool.decide_or p q).symm
attribute [go_sem] dec_and dec_or reduceIte Nat.reduceEqDiff Nat.reduceAdd Nat.reduceMul Nat.reduceSub reduceCtorEq Nat.reduceLeDiff Nat.reduceLT Int.reduceLT Int.reduceLE Int.reduceToNat Int.reduceAdd
  Int.reduceSub Int.reduceNeg Int.reduceMul Int.reduceEq
attribute [go_sem] LoadG_cons LoadN_zero LoadN_cons LdE_one LdE_n BlkG_some CondG_true CondG_false CondG_dec CondG_ndec CondG_beq CondG_nbeq CondA_bool GuardA_tup GuardA_true GuardA_false vg_skip
  vg_seq vg_cond vg_block vg_loop vg_exit vg_ret vg_reg og_nil og_f og_s1 og_s2 og_guard fg_mv fg_pick fg_bin bg_int bg_str ig_shl ig_shr ig_add ig_sub ig_mul ig_quo ig_rem ig_eql ig_neq ig_lss ig_leq
  ig_gtr ig_geq ig_and ig_or ig_xor ig_andNot fg_eqv qg_bool qg_sl qg_msl qg_fn qg_nilfn qg_ptr qg_sptr qg_nilp qg_ints fg_un ug_not ug_neg ug_xor fg_conv cvA_int fg_load ldA_ptr ldA_sptr fg_loadF ldX_sptr fg_fieldAddr
  faA_ptr faA_sptr fg_field fdA_st fg_indexAddr ixA_sl ixA_msl fg_indexArr irA_ptr irA_sptr fg_len lnA_sl lnA_msl fg_max fg_min mxA_max mxA_min fg_slice dg_none dg_some dA_int slA_hl slA_l slA_m
  slA_msl slA_mslm mslCut_zero mapG_some findG_some fg_strIndex siA_str fg_lookup lkA_ok lkA_one fg_mlen mlA_map sg_appendM amS_full sg_appendI aiS_full aiS_msl sg_clear clS_msl sg_makeMap sg_mapUpdate muS_map
  cells_map one_map cells_nilmap one_nilmap AH.mp_putM AH.blk_putM AH.tok_putM AH.mp_put AH.mp_setTok AH.putM_put AH.putM_setTok AH.putM_putM fg_build fg_buildSlice fg_append apF_full rg_sl rg_msl
  fg_makeFunc fg_extract exA_tup fg_nilCheck ncA_ptr ncA_sptr ncA_fn fg_call fg_callv caA_fn sg_alloc sg_box sg_make mkA_int sg_append apS_full apS_tok sg_store stA_ptr lnA_gl ixA_gl rg_gl qg_gl
  cells_gl one_gl apS_gl fg_boxF lenOK_none lenOK_some sg_storeF stF_ptr sg_copy cpA_msl sg_call sg_callv csA_fn Arg.ev Env.put entry Env.keep Env.get_cons Env.get List.map_cons List.map_nil
  Bool.not_eq_true' Bool.not_eq_false' decide_eq_true_eq decide_eq_false_iff_not true_and and_true evRes_nil evRes_t evRes_cell packed Int.toNat_natCast partsOK fillAV spl cells_st cells_int one_int
  cells_bool one_bool cells_str one_str cells_sl one_sl cells_ptr one_ptr cells_sptr one_sptr cells_nilp one_nilp cells_msl one_msl cells_fn one_fn cells_nilfn one_nilfn allOne List.length_cons
  List.length_nil beq_self_eq_true Bool.and_true Bool.and_self List.set_cons_zero List.set_cons_succ Nat.mul_one exists_eq_left' Option.some.injEq List.getElem?_cons_zero List.take_succ_cons
  List.take_zero List.drop_zero List.drop_succ_cons Bool.false_eq_true false_implies true_implies forall_const Bool.not_true Bool.not_false Option.map Option.getD_none Option.getD_some decide_true
  decide_false Int.natCast_nonneg List.flatten_cons List.flatten_nil List.append_nil List.nil_append List.cons_append List.replicate Bool.not_not not_true_eq_false not_false_eq_true Exit.exit.injEq
  AH.blk_put AH.put_put AH.tok_setTok AH.blk_setTok AH.tok_put AH.put_setTok AH.setTok_setTok Nat.lt_irrefl Nat.zero_lt_succ gt_iff_lt Nat.le_refl Nat.zero_add Nat.add_zero Nat.zero_mul eqCells eq_self
  Int.lt_irrefl
end Go.Abs
