/- Go's SortedFunc over the values of a map, and over its keys, in this seat's program. No condition. -/
import Derived.Test.YtcnmodnafnadlaaQ6
namespace Go.Proofs.Ytcnmodnafnadlaa
set_option maxRecDepth 100000
open Go Go.Abs Go.Shelf Go.Proofs Go.RowKit Go.Maps Go.Sort
set_option linter.unusedSimpArgs false
set_option linter.unusedVariables false

/-- The order of marks. -/
def mlt (a b : Int × Int) : Prop := a.1 < b.1 ∨ a.1 = b.1 ∧ a.2 < b.2
instance (a b : Int × Int) : Decidable (mlt a b) := by unfold mlt; infer_instance
def Dec.mk2 (d : Dec) : Int × Int := (d.au, d.nu)
def cfM (a b : Int × Int) : Int := or2 (Lib.compareInt a.1 b.1) (Lib.compareInt a.2 b.2)
def cfD (a b : Dec) : Int := or2 (Lib.compareInt a.au b.au) (Lib.compareInt a.nu b.nu)
theorem cfM_lt (a b : Int × Int) : cfM a b < 0 ↔ mlt a b := by
  unfold cfM or2 Lib.compareInt mlt
  repeat' split
  all_goals omega
theorem ltM_iff (a b : Int × Int) : ltOf cfM a b = true ↔ mlt a b := by
  unfold ltOf
  rw [decide_eq_true_eq, cfM_lt]
theorem ltD_iff (a b : Dec) : ltOf cfD a b = true ↔ mlt a.mk2 b.mk2 := ltM_iff a.mk2 b.mk2
theorem cfM_swo : SWO (ltOf cfM) where
  irrefl x := by rw [Bool.eq_false_iff]; intro h; rw [ltM_iff] at h; unfold mlt at h; omega
  trans x y z h1 h2 := by rw [ltM_iff] at *; unfold mlt at *; omega
  ntrans x y z h1 h2 := by
    rw [Bool.eq_false_iff] at *
    intro h
    rw [ne_eq, ltM_iff] at h1 h2
    rw [ltM_iff] at h
    unfold mlt at *
    omega
theorem cfD_swo : SWO (ltOf cfD) where
  irrefl x := cfM_swo.irrefl x.mk2
  trans x y z h1 h2 := cfM_swo.trans x.mk2 y.mk2 z.mk2 h1 h2
  ntrans x y z h1 h2 := cfM_swo.ntrans x.mk2 y.mk2 z.mk2 h1 h2
theorem cfM_asym (x y : Int × Int) (h : ltOf cfM x y = true) : ltOf cfM y x = false := by
  rw [Bool.eq_false_iff, ne_eq, ltM_iff]
  rw [ltM_iff] at h
  unfold mlt at *
  omega
theorem cfD_asym (x y : Dec) (h : ltOf cfD x y = true) : ltOf cfD y x = false := cfM_asym x.mk2 y.mk2 h

theorem cmpLays5 (blk off size : Nat) (w : World) : CmpLays Try.prog 44 #[] e5 5 cfD blk off size w := fun m os dk _ x y => by
  have := c_44 x y (sortWorldK e5 5 w blk off m dk os)
  exact this
set_option maxHeartbeats 2000000 in
theorem sortedFunc5 (n : Nat) (hn : 4 ≤ n) (g : Nat) (lb : Array Value) (eg : ∀ args w, (callFunc g args).run Try.prog w = .ok (.enter g args) w)
    (D : List Dec) (hD : D.Pairwise fun x y => ltOf cfD x y = true) (hN : D.length ≤ maxLen) (hNb : D.length * 40 ≤ 140737488355328) (w : World) (hseq : SeqGives Fence.wide (n - 1 - 1 - 1) Try.prog g lb g5 (·.Perm D) D.length w) :
    CallsIn Fence.wide n Try.prog 42 #[.func (.func g) #[] lb, .func (.func 44) #[] #[]] w fun e w' => ∃ v : Value, e = .returned v ∧
      w'.ownsRow w.heap.size 31 5 v D.length (f5 D) ∧ (v = .slice none 0 0 ↔ D = []) ∧ RowKit.Below w.heap.size w w' := by
  have h1 : 1 ≤ n := by omega
  have e48 : ∀ args w, (callFunc 61 args).run Try.prog w = .ok (.enter 61 args) w := enters_of Try.func61 (by kernel_rfl) rfl
  have e49 : ∀ args w, (callFunc 62 args).run Try.prog w = .ok (.enter 62 args) w := enters_of Try.func62 (by kernel_rfl) rfl
  have e39 : ∀ args w, (callFunc 44 args).run Try.prog w = .ok (.enter 44 args) w := enters_of Try.func44 (by kernel_rfl) rfl
  have hall : ∀ f, Fence.wide.fn f := fun f => trivial
  refine callsIn_of_wp Try.func42 rfl (hall _) ?_ rfl
  simp only [Try.ntmps42, List.size_toArray, List.length_cons, List.length_nil, Nat.reduceAdd, Nat.reduceSub, Array.replicate_succ, Array.replicate_zero, List.push_toArray, List.append_toArray, List.nil_append, List.cons_append]
  gi_wp2_with (gi_at_fn 61; refine (collectV5 Fence.wide (n - 1) (hall _) (hall _) rfl (by omega) g lb (hall _) eg _ _ hN hNb _ hseq).mono ?_; rintro e W ⟨v, xs, rfl, hS, hrow, hnil, hb⟩)
  have hxl : xs.length = D.length := hS.length_eq
  have hxD : xs = [] ↔ D = [] := by rw [← List.length_eq_zero_iff, ← List.length_eq_zero_iff, hxl]
  rcases hrow.2 with ⟨rfl, hz⟩ | ⟨gb, cap, cur, rfl, hbase, hgb, r1, r2, r3, r4⟩
  · have hss : xs = [] := List.eq_nil_of_length_eq_zero hz
    have hDn := hxD.1 hss
    subst hss
    subst hDn
    have cN := AnyF.slices_SortFunc_none sfLays none 0 (.func (.func 44) #[] #[]) W
    have cN' : CallsIn Fence.wide (n - 1) Try.prog 62 #[.slice none 0 0, .func (.func 44) #[] #[]] W fun e w' => e = .returned (.tuple #[]) ∧ w' = W := callsIn_wide.2 cN
    gi_wp2_with (gi_at_fn 62; refine cN'.mono ?_; rintro e w' ⟨rfl, rfl⟩)
    go_ret
    exact ⟨.slice none 0 0, rfl, by simpa using hrow, by simp, hb⟩
  · have hH : HoldsK e5 5 W gb 0 xs.toArray := holds5 hgb r4
    have hgl : gb < W.heap.size := (Array.getElem?_eq_some_iff.1 hgb).1
    have cS := AnyQ.slices_SortFunc sfLays 5 Try.isAgg31 Try.sizeOf31 e5 e5_len e5_one cfD cfD_swo 44 #[] gb 0 cap xs.toArray W e39 (cmpLays5 _ _ _ _) hH hgl (by simp only [maxLen] at hN; simp; omega)
    have cS' : CallsIn Fence.wide (n - 1) Try.prog 62 #[.slice (some ⟨gb, 0, none⟩) xs.length cap, .func (.func 44) #[] #[]] W fun e w' => e = .returned (.tuple #[]) ∧ ∃ n os, w' = sortWorldK e5 5 W gb 0 n D.toArray os := callsIn_wide.2 (cS.mono fun e w' ⟨h1, d', m, os, hP, hSo, hw⟩ => ⟨h1, m, os, by rw [hw, sort_canon cfD_asym hD hS hP hSo]⟩)
    gi_wp2_with (gi_at_fn 62; refine cS'.mono ?_; rintro e w' ⟨rfl, nn, os, rfl⟩)
    go_ret
    have hrow2 := ownsRow5 (n := nn) (os := os) hxl.symm hbase hgb r1 r2 r3
    rw [hxl] at hrow2 hnil
    exact ⟨_, rfl, hrow2, hnil.trans hxD, hb.grown (grownBy5 _) hb.size (fun j hj => by cases hj; exact hbase)⟩
set_option maxHeartbeats 1000000 in
theorem sfH5 (b : Nat) (es : List (AV × AV)) (D E : List Dec) (h : AH) (hmp : h.mp b = some es) (hes : es.map (·.2) = E.map fun x => .st x.cs) (hE : E.Perm D) (hD : D.Pairwise fun x y => ltOf cfD x y = true) (hln : D.length ≤ 1000000) :
    ∀ (s : Sg) (h' : AH) (vs : List Value) (w : World), AH.leB h h' → VRels s [.fn 63 [.sptr [.map b]], .fn 44 []] vs → HSim s h' w (ownOf s h') w → (∀ x ∈ D, InR .i64 x.au ∧ InR .i64 x.nu ∧ InR .i64 x.ki ∧ InR .i64 x.a ∧ InR .i64 x.b) ∧ Calls Try.prog 42 vs.toArray w fun e w' => ∃ v : Value, e = .returned v ∧
      w'.ownsRow w.heap.size 31 5 v D.length (f5 D) ∧ (v = .slice none 0 0 ↔ D = []) ∧ RowKit.Below w.heap.size w w' := by
  intro s h' vs w hl hv hs
  obtain ⟨v, hv0, hr⟩ := hv.at_ (j := 0) rfl
  obtain ⟨u, hu0, hru⟩ := hv.at_ (j := 1) rfl
  have hvs : vs = [v, u] := by
    match vs, hv.1, hv0, hu0 with
    | [a, b], _, h, k => simp at h k; rw [h, k]
  subst hvs
  obtain ⟨fs, rfl, hfs⟩ := hru.fn_inv
  have hfs0 : fs = [] := List.eq_nil_of_length_eq_zero (by simpa using hfs.1)
  subst hfs0
  obtain ⟨cs, rfl, hcs⟩ := hr.fn_inv
  obtain ⟨v1, hv1, hr1⟩ := hcs.at_ (j := 0) rfl
  have hcs1 : cs = [v1] := by
    match cs, hcs.1, hv1 with
    | [u], _, h => simp at h; rw [h]
  subst hcs1
  obtain ⟨ad, us, rfl, hsp, hus, hfx⟩ := hr1.sptr_inv
  obtain ⟨sv, hu0', hr2⟩ := hus.at_ (j := 0) rfl
  obtain ⟨B, o, sp⟩ := ad
  simp only at hsp
  subst hsp
  have hcell := (hs.fx _ _ _ (hfx 0 sv hu0')).1
  simp only [Nat.add_zero] at hcell
  obtain ⟨c, rfl, hbc⟩ := hr2.map_inv
  obtain ⟨c', mes, ck, m1, m2, m3, m4, m5, _⟩ := hs.mp b es (hl.2 b es hmp)
  rw [hbc] at m1
  cases m1
  have hel : es.length = E.length := by have := congrArg List.length hes; simpa using this
  have hmem : ∀ (j : Nat) (hj : j < E.length) (hj2 : j < mes.toList.length), mes.toList[j].val = g5 E[j] ∧ (∀ x, x = E[j] → InR .i64 x.au ∧ InR .i64 x.nu ∧ InR .i64 x.ki ∧ InR .i64 x.a ∧ InR .i64 x.b) := fun j hj hj2 => by
    have e1 : j < es.length := by omega
    have e2 := (m3.2 j es[j] mes.toList[j] (List.getElem?_eq_getElem e1) (List.getElem?_eq_getElem hj2)).2
    have e3 : (es.map (·.2))[j]? = (E.map fun x => .st x.cs)[j]? := by rw [hes]
    rw [List.getElem?_map, List.getElem?_map, List.getElem?_eq_getElem e1, List.getElem?_eq_getElem hj] at e3
    simp only [Option.map_some, Option.some.injEq] at e3
    rw [e3] at e2
    obtain ⟨ws, e4, e5⟩ := e2.st_inv
    obtain ⟨v0, q0, t0⟩ := e5.at_ (j := 0) rfl
    obtain ⟨rfl, r0⟩ := t0.int_inv
    obtain ⟨v1, q1, t1⟩ := e5.at_ (j := 1) rfl
    obtain ⟨rfl, r1⟩ := t1.int_inv
    obtain ⟨v2, q2, t2⟩ := e5.at_ (j := 2) rfl
    obtain ⟨rfl, r2⟩ := t2.int_inv
    obtain ⟨v3, q3, t3⟩ := e5.at_ (j := 3) rfl
    obtain ⟨rfl, r3⟩ := t3.int_inv
    obtain ⟨v4, q4, t4⟩ := e5.at_ (j := 4) rfl
    obtain ⟨rfl, r4⟩ := t4.int_inv
    have hws : ws = [.int .i64 E[j].au, .int .i64 E[j].nu, .int .i64 E[j].ki, .int .i64 E[j].a, .int .i64 E[j].b] := by
      match ws, e5.1, q0, q1, q2, q3, q4 with
      | [y0, y1, y2, y3, y4], _, z0, z1, z2, z3, z4 => simp at z0 z1 z2 z3 z4; simp [z0, z1, z2, z3, z4]
    subst hws
    rw [e4]
    refine ⟨rfl, fun x hx => ?_⟩
    subst hx
    exact ⟨r0, r1, r2, r3, r4⟩
  have hval : mes.toList.map (·.val) = E.map g5 := by
    refine List.ext_getElem (by rw [List.length_map, List.length_map, m3.1, hel]) fun j h1 h2 => ?_
    rw [List.getElem_map, List.getElem_map]
    exact (hmem j (by simpa using h2) (by simpa using h1)).1
  refine ⟨fun x hx => ?_, ?_⟩
  · obtain ⟨j, hj, rfl⟩ := List.getElem_of_mem (hE.mem_iff.2 hx)
    exact (hmem j hj (by rw [m3.1, hel]; exact hj)).2 _ rfl
  · have hseq : SeqGives Fence.wide (4 - 1 - 1 - 1) Try.prog 63 #[.pointer (some ⟨B, o, none⟩)] g5 (·.Perm D) D.length w := by
      have hq := iter5 Fence.wide (4 - 1 - 1 - 1) trivial rfl (by omega) B o c mes ck E w hcell m2 m4 m5 hval
      intro l J W hW hJ hY h0
      refine (hq l J W hW hJ (fun pre x W1 hp hl => hY pre x W1 hp (by rw [← hE.length_eq]; exact hl)) h0).mono ?_
      rintro e W' ⟨h1, ss, h2, h3⟩
      exact ⟨h1, ss, h2.trans hE, h3⟩
    have e63 : ∀ args w, (callFunc 63 args).run Try.prog w = .ok (.enter 63 args) w := enters_of Try.func63 (by kernel_rfl) rfl
    exact callsIn_wide.1 (sortedFunc5 4 (Nat.le_refl _) 63 _ e63 D hD (by simp only [maxLen]; omega) (by omega) w hseq)
theorem r_slices_SortedFunc5 (b : Nat) (es : List (AV × AV)) (D E : List Dec) (h : AH) (hmp : h.mp b = some es) (hes : es.map (·.2) = E.map fun x => .st x.cs) (hE : E.Perm D) (hD : D.Pairwise fun x y => ltOf cfD x y = true) (hln : D.length ≤ 1000000) :
    RCall Try.prog 42 [.fn 63 [.sptr [.map b]], .fn 44 []] h (.sl (decide (D = [])) D.length (dcs D) .unk) :=
  rcall_of_row5 (t := 31) (by kernel_rfl) h (sfH5 b es D E h hmp hes hE hD hln)

theorem cmpLays2 (blk off size : Nat) (w : World) : CmpLays Try.prog 45 #[] e2 2 cfM blk off size w := fun m os dk _ x y => by
  have := c_45 x y (sortWorldK e2 2 w blk off m dk os)
  exact this
set_option maxHeartbeats 2000000 in
theorem sortedFunc2 (n : Nat) (hn : 4 ≤ n) (g : Nat) (lb : Array Value) (eg : ∀ args w, (callFunc g args).run Try.prog w = .ok (.enter g args) w)
    (D : List (Int × Int)) (hD : D.Pairwise fun x y => ltOf cfM x y = true) (hN : D.length ≤ maxLen) (hNb : D.length * 16 ≤ 140737488355328) (w : World) (hseq : SeqGives Fence.wide (n - 1 - 1 - 1) Try.prog g lb g2 (·.Perm D) D.length w) :
    CallsIn Fence.wide n Try.prog 46 #[.func (.func g) #[] lb, .func (.func 45) #[] #[]] w fun e w' => ∃ v : Value, e = .returned v ∧
      w'.ownsRow w.heap.size 33 2 v D.length (f2 D) ∧ (v = .slice none 0 0 ↔ D = []) ∧ RowKit.Below w.heap.size w w' := by
  have h1 : 1 ≤ n := by omega
  have e48 : ∀ args w, (callFunc 66 args).run Try.prog w = .ok (.enter 66 args) w := enters_of Try.func66 (by kernel_rfl) rfl
  have e49 : ∀ args w, (callFunc 67 args).run Try.prog w = .ok (.enter 67 args) w := enters_of Try.func67 (by kernel_rfl) rfl
  have e39 : ∀ args w, (callFunc 45 args).run Try.prog w = .ok (.enter 45 args) w := enters_of Try.func45 (by kernel_rfl) rfl
  have hall : ∀ f, Fence.wide.fn f := fun f => trivial
  refine callsIn_of_wp Try.func46 rfl (hall _) ?_ rfl
  simp only [Try.ntmps46, List.size_toArray, List.length_cons, List.length_nil, Nat.reduceAdd, Nat.reduceSub, Array.replicate_succ, Array.replicate_zero, List.push_toArray, List.append_toArray, List.nil_append, List.cons_append]
  gi_wp2_with (gi_at_fn 66; refine (collectV2 Fence.wide (n - 1) (hall _) (hall _) rfl (by omega) g lb (hall _) eg _ _ hN hNb _ hseq).mono ?_; rintro e W ⟨v, xs, rfl, hS, hrow, hnil, hb⟩)
  have hxl : xs.length = D.length := hS.length_eq
  have hxD : xs = [] ↔ D = [] := by rw [← List.length_eq_zero_iff, ← List.length_eq_zero_iff, hxl]
  rcases hrow.2 with ⟨rfl, hz⟩ | ⟨gb, cap, cur, rfl, hbase, hgb, r1, r2, r3, r4⟩
  · have hss : xs = [] := List.eq_nil_of_length_eq_zero hz
    have hDn := hxD.1 hss
    subst hss
    subst hDn
    have cN := AnyF.slices_SortFunc_none sfLaysM none 0 (.func (.func 45) #[] #[]) W
    have cN' : CallsIn Fence.wide (n - 1) Try.prog 67 #[.slice none 0 0, .func (.func 45) #[] #[]] W fun e w' => e = .returned (.tuple #[]) ∧ w' = W := callsIn_wide.2 cN
    gi_wp2_with (gi_at_fn 67; refine cN'.mono ?_; rintro e w' ⟨rfl, rfl⟩)
    go_ret
    exact ⟨.slice none 0 0, rfl, by simpa using hrow, by simp, hb⟩
  · have hH : HoldsK e2 2 W gb 0 xs.toArray := holds2 hgb r4
    have hgl : gb < W.heap.size := (Array.getElem?_eq_some_iff.1 hgb).1
    have cS := AnyQ.slices_SortFunc sfLaysM 2 Try.isAgg33 Try.sizeOf33 e2 e2_len e2_one cfM cfM_swo 45 #[] gb 0 cap xs.toArray W e39 (cmpLays2 _ _ _ _) hH hgl (by simp only [maxLen] at hN; simp; omega)
    have cS' : CallsIn Fence.wide (n - 1) Try.prog 67 #[.slice (some ⟨gb, 0, none⟩) xs.length cap, .func (.func 45) #[] #[]] W fun e w' => e = .returned (.tuple #[]) ∧ ∃ n os, w' = sortWorldK e2 2 W gb 0 n D.toArray os := callsIn_wide.2 (cS.mono fun e w' ⟨h1, d', m, os, hP, hSo, hw⟩ => ⟨h1, m, os, by rw [hw, sort_canon cfM_asym hD hS hP hSo]⟩)
    gi_wp2_with (gi_at_fn 67; refine cS'.mono ?_; rintro e w' ⟨rfl, nn, os, rfl⟩)
    go_ret
    have hrow2 := ownsRow2 (n := nn) (os := os) hxl.symm hbase hgb r1 r2 r3
    rw [hxl] at hrow2 hnil
    exact ⟨_, rfl, hrow2, hnil.trans hxD, hb.grown (grownBy2 _) hb.size (fun j hj => by cases hj; exact hbase)⟩
set_option maxHeartbeats 1000000 in
theorem sfH2 (b : Nat) (es : List (AV × AV)) (D E : List (Int × Int)) (h : AH) (hmp : h.mp b = some es) (hes : es.map (·.1) = E.map fun x => .st [.int .i64 x.1, .int .i64 x.2]) (hE : E.Perm D) (hD : D.Pairwise fun x y => ltOf cfM x y = true) (hln : D.length ≤ 1000000) :
    ∀ (s : Sg) (h' : AH) (vs : List Value) (w : World), AH.leB h h' → VRels s [.fn 68 [.sptr [.map b]], .fn 45 []] vs → HSim s h' w (ownOf s h') w → (∀ x ∈ D, InR .i64 x.1 ∧ InR .i64 x.2) ∧ Calls Try.prog 46 vs.toArray w fun e w' => ∃ v : Value, e = .returned v ∧
      w'.ownsRow w.heap.size 33 2 v D.length (f2 D) ∧ (v = .slice none 0 0 ↔ D = []) ∧ RowKit.Below w.heap.size w w' := by
  intro s h' vs w hl hv hs
  obtain ⟨v, hv0, hr⟩ := hv.at_ (j := 0) rfl
  obtain ⟨u, hu0, hru⟩ := hv.at_ (j := 1) rfl
  have hvs : vs = [v, u] := by
    match vs, hv.1, hv0, hu0 with
    | [a, b], _, h, k => simp at h k; rw [h, k]
  subst hvs
  obtain ⟨fs, rfl, hfs⟩ := hru.fn_inv
  have hfs0 : fs = [] := List.eq_nil_of_length_eq_zero (by simpa using hfs.1)
  subst hfs0
  obtain ⟨cs, rfl, hcs⟩ := hr.fn_inv
  obtain ⟨v1, hv1, hr1⟩ := hcs.at_ (j := 0) rfl
  have hcs1 : cs = [v1] := by
    match cs, hcs.1, hv1 with
    | [u], _, h => simp at h; rw [h]
  subst hcs1
  obtain ⟨ad, us, rfl, hsp, hus, hfx⟩ := hr1.sptr_inv
  obtain ⟨sv, hu0', hr2⟩ := hus.at_ (j := 0) rfl
  obtain ⟨B, o, sp⟩ := ad
  simp only at hsp
  subst hsp
  have hcell := (hs.fx _ _ _ (hfx 0 sv hu0')).1
  simp only [Nat.add_zero] at hcell
  obtain ⟨c, rfl, hbc⟩ := hr2.map_inv
  obtain ⟨c', mes, ck, m1, m2, m3, m4, m5, _⟩ := hs.mp b es (hl.2 b es hmp)
  rw [hbc] at m1
  cases m1
  have hel : es.length = E.length := by have := congrArg List.length hes; simpa using this
  have hmem : ∀ (j : Nat) (hj : j < E.length) (hj2 : j < mes.toList.length), mes.toList[j].key = g2 E[j] ∧ (∀ x, x = E[j] → InR .i64 x.1 ∧ InR .i64 x.2) := fun j hj hj2 => by
    have e1 : j < es.length := by omega
    have e2 := (m3.2 j es[j] mes.toList[j] (List.getElem?_eq_getElem e1) (List.getElem?_eq_getElem hj2)).1
    have e3 : (es.map (·.1))[j]? = (E.map fun x => .st [.int .i64 x.1, .int .i64 x.2])[j]? := by rw [hes]
    rw [List.getElem?_map, List.getElem?_map, List.getElem?_eq_getElem e1, List.getElem?_eq_getElem hj] at e3
    simp only [Option.map_some, Option.some.injEq] at e3
    rw [e3] at e2
    obtain ⟨ws, e4, e5⟩ := e2.st_inv
    obtain ⟨v0, q0, t0⟩ := e5.at_ (j := 0) rfl
    obtain ⟨rfl, r0⟩ := t0.int_inv
    obtain ⟨v1, q1, t1⟩ := e5.at_ (j := 1) rfl
    obtain ⟨rfl, r1⟩ := t1.int_inv
    have hws : ws = [.int .i64 E[j].1, .int .i64 E[j].2] := by
      match ws, e5.1, q0, q1 with
      | [y0, y1], _, z0, z1 => simp at z0 z1; simp [z0, z1]
    subst hws
    rw [e4]
    refine ⟨rfl, fun x hx => ?_⟩
    subst hx
    exact ⟨r0, r1⟩
  have hval : mes.toList.map (·.key) = E.map g2 := by
    refine List.ext_getElem (by rw [List.length_map, List.length_map, m3.1, hel]) fun j h1 h2 => ?_
    rw [List.getElem_map, List.getElem_map]
    exact (hmem j (by simpa using h2) (by simpa using h1)).1
  refine ⟨fun x hx => ?_, ?_⟩
  · obtain ⟨j, hj, rfl⟩ := List.getElem_of_mem (hE.mem_iff.2 hx)
    exact (hmem j hj (by rw [m3.1, hel]; exact hj)).2 _ rfl
  · have hseq : SeqGives Fence.wide (4 - 1 - 1 - 1) Try.prog 68 #[.pointer (some ⟨B, o, none⟩)] g2 (·.Perm D) D.length w := by
      have hq := iter2 Fence.wide (4 - 1 - 1 - 1) trivial rfl (by omega) B o c mes ck E w hcell m2 m4 m5 hval
      intro l J W hW hJ hY h0
      refine (hq l J W hW hJ (fun pre x W1 hp hl => hY pre x W1 hp (by rw [← hE.length_eq]; exact hl)) h0).mono ?_
      rintro e W' ⟨h1, ss, h2, h3⟩
      exact ⟨h1, ss, h2.trans hE, h3⟩
    have e63 : ∀ args w, (callFunc 68 args).run Try.prog w = .ok (.enter 68 args) w := enters_of Try.func68 (by kernel_rfl) rfl
    exact callsIn_wide.1 (sortedFunc2 4 (Nat.le_refl _) 68 _ e63 D hD (by simp only [maxLen]; omega) (by omega) w hseq)
theorem r_slices_SortedFunc2 (b : Nat) (es : List (AV × AV)) (D E : List (Int × Int)) (h : AH) (hmp : h.mp b = some es) (hes : es.map (·.1) = E.map fun x => .st [.int .i64 x.1, .int .i64 x.2]) (hE : E.Perm D) (hD : D.Pairwise fun x y => ltOf cfM x y = true) (hln : D.length ≤ 1000000) :
    RCall Try.prog 46 [.fn 68 [.sptr [.map b]], .fn 45 []] h (.sl (decide (D = [])) D.length (prs D) .unk) :=
  rcall_of_row2 (t := 33) (by kernel_rfl) h (sfH2 b es D E h hmp hes hE hD hln)
end Go.Proofs.Ytcnmodnafnadlaa
