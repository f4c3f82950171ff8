/- Soundness of append whose answer may be written or that writes, and of clear. No condition. -/
import Derived.Test.YtidmekdkfiljjaaGreatK13
namespace Go.Abs
open Go

theorem sS_appendM {P : Program} {o : Oper} {t e' : TypeId} {i : TypeInfo} {x y : Operand} {ax ay : Arg} {c : Call} {z : List AV} (ho : o.op = .call c) (hc : c.callee = .builtin .append) (ha : c.args = #[x, y]) (hty : c.argTypes = #[t, t])
    (hu : P.underlying t = some (.slice e')) (hi : P.info? e' = some i) (hz : zeroT P e' = some z) (hx : cArg x = some ax) (hy : cArg y = some ay) : SSound P o (.appendM i.size i.bytes ax ay) := by
  intro N s e h w0 own a w hs K hk next Q hn
  have rx := cArg_rel hs hx
  have ry := cArg_rel hs hy
  obtain ⟨i', zv, hi', hzv, hzr, _, hzl⟩ := zeroT_inv hz s
  rw [hi] at hi'; cases hi'
  simp only [evS] at hk
  split at hk
  · rename_i nl n cs hb
    rw [hb] at rx
    obtain ⟨A, cap, vs, ev, hr, hfx, hnil, hnone, hspot, hcap, hmax, htl⟩ := rx.sl_inv
    have hcn : cap = n := htl
    obtain ⟨hlen, hk⟩ := hk
    obtain ⟨B, m, c', ys, news, ev2, hr2, hl2, hc2, h12, hB, hm, hbnd, h47, hk⟩ := rdSl_inv hs.heap ry hk
    cases B with
    | none => have := hB rfl; omega
    | some B =>
      have hvl : vs.length = n * i.size := by rw [hr.1]; exact hlen
      obtain ⟨cap', arr, hrun, hge, hle, harr⟩ := run_append_new (P := P) w t o.type e' i zv hu hi hzv A n cap vs hvl
        (fun j v hv => by obtain ⟨ad, e1, e2, e3⟩ := hfx j v hv; exact ⟨ad, e1, by rw [add_eq e2]; exact (hs.heap.fx _ _ _ e3).1⟩) hnone B m c' news hl2 (fun j u hu' => by obtain ⟨b, e1, e2⟩ := hc2 j u hu'; cases e1; exact e2) (by omega) (by omega) hbnd
      have hone : ∀ v ∈ vs ++ news, v.oneCell' = true := by
        intro v hv
        rcases List.mem_append.1 hv with hv | hv
        · obtain ⟨j, hj, rfl⟩ := List.getElem_of_mem hv
          obtain ⟨ad, e1, e2, e3⟩ := hfx j _ (List.getElem?_eq_getElem hj)
          exact (hs.heap.fx _ _ _ e3).2
        · exact h12 v hv
      have hg : (w.drew.alloc (.cells arr e')).heap[w.heap.size]? = some (.cells arr e' (0, 0)) := push_new w.drew _
      have hrr := hr.append hr2
      have hpre : ∀ (j : Nat) (v : Value), (vs ++ news)[j]? = some v → arr[j]? = some v := by
        intro j v hj
        rw [harr]
        have hjl : j < (vs ++ news).length := (List.getElem?_eq_some_iff.1 hj).1
        rw [Array.getElem?_append_left (by simpa using hjl)]
        simpa using hj
      obtain ⟨s', b1, b2, b3, b4⟩ := hs.heap.newBlk (Later.drew_alloc w (.cells arr e')) hg (cells := cs ++ ys) (by
          rw [← hrr.1, harr]; simp) (fun j y hy => by
          obtain ⟨v, hv, hrel⟩ := hrr.at_ hy
          exact ⟨v, hpre j v hv, hone v (List.mem_of_getElem? hv), hrel⟩)
      unfold Oper.wp
      have hexec : (execOp a.eval o).run P w = ((Builtin.append_ #[t, t] o.type #[.slice A n cap, .slice (some B) m c']).run P w).andThen fun v w' => .ok (.value v) w' := by
        simp [execOp, ho, resolve, hc, ha, hty, invoke, builtin, ev, ev2]
      rw [hexec, hrun]
      exact hn s' _ _ _ _ b1 b2 (.msl s.nb 0 (n + m) none w.heap.size cap' b3 hge hle (fun q hq => by cases hq)) (hk s.nb b4)
  · exact hk.elim

theorem HSim.growBlk {s : Sg} {h : AH} {w0 : World} {own : Nat → Prop} {w w' : World} (k : HSim s h w0 own w) (l : Later w w') {arr : Array Value} {e : TypeId} (hg : w'.heap[w.heap.size]? = some (.cells arr e (0, 0)))
    {xs : List AV} {us : List Value} {z : Array Value} {p size : Nat} (hr : VRels s xs us) (h1 : ∀ v ∈ us, v.oneCell' = true) (hz1 : ∀ v ∈ z.toList, v.oneCell' = true) (hsz : z.size = size) (harr : arr = us.toArray ++ Builtin.zeroCells z p) :
    ∃ s', s.le s' ∧ HSim s' (h.put s.nb (xs ++ List.replicate (p * size) .undef)) w0 own w' ∧ s'.blk s.nb = some w.heap.size ∧ h.blk s.nb = none := by
  have hzs : (Builtin.zeroCells z p).size = p * size := by simp [Builtin.zeroCells, hsz]
  refine k.newBlk l hg ?_ fun j x hx => ?_
  · rw [harr, Array.size_append, hzs, List.length_append, List.length_replicate, ← hr.1]; simp
  · rw [List.getElem?_append] at hx
    split at hx
    · rename_i hj
      obtain ⟨v, hv, hrel⟩ := hr.at_ hx
      have hju : j < us.length := by rw [hr.1]; exact hj
      exact ⟨v, by rw [harr, Array.getElem?_append_left (by simpa using hju)]; simpa using hv, h1 v (List.mem_of_getElem? hv), hrel⟩
    · rename_i hj
      have hjr : j - xs.length < p * size := by
        have := (List.getElem?_eq_some_iff.1 hx).1
        simpa using this
      have hxu : x = .undef := by
        have := List.mem_of_getElem? hx
        exact (List.mem_replicate.1 this).2
      subst hxu
      have hul : us.length = xs.length := hr.1
      have hlt : j - us.length < (Builtin.zeroCells z p).size := by rw [hzs, hul]; exact hjr
      refine ⟨(Builtin.zeroCells z p)[j - us.length], ?_, ?_, .undef _⟩
      · rw [harr, Array.getElem?_append_right (by simp; omega)]
        simp
      · have hmem : (Builtin.zeroCells z p)[j - us.length] ∈ (Builtin.zeroCells z p).toList := by simp
        simp only [Builtin.zeroCells, Array.toList_map, List.mem_map] at hmem
        obtain ⟨q, hq, hqe⟩ := hmem
        have hpos : 0 < z.size := by
          rcases Nat.eq_zero_or_pos z.size with h0 | h0
          · rw [hzs, ← hsz, h0] at hlt; simp at hlt
          · exact h0
        have hm : q % z.size < z.size := Nat.mod_lt _ hpos
        rw [getElem!_pos z _ hm] at hqe
        have hh : z[q % z.size].oneCell' = true := hz1 _ (by simp)
        rw [hqe] at hh
        exact hh

theorem sS_appendI {P : Program} {o : Oper} {t e' : TypeId} {i : TypeInfo} {x y : Operand} {ax ay : Arg} {c : Call} {z : List AV} (ho : o.op = .call c) (hc : c.callee = .builtin .append) (ha : c.args = #[x, y]) (hty : c.argTypes = #[t, t])
    (hu : P.underlying t = some (.slice e')) (hi : P.info? e' = some i) (hz : zeroT P e' = some z) (hx : cArg x = some ax) (hy : cArg y = some ay) : SSound P o (.appendI i.size i.bytes ax ay) := by
  intro N s e h w0 own a w hs K hk next Q hn
  have rx := cArg_rel hs hx
  have ry := cArg_rel hs hy
  obtain ⟨i', zv, hi', hzv, hzr, hz1, hzl⟩ := zeroT_inv hz s
  rw [hi] at hi'; cases hi'
  have hzs : zv.cells.size = i.size := by rw [← hzl, ← hzr.1]; simp
  simp only [evS] at hk
  split at hk
  · rename_i nl n cs hb
    rw [hb] at rx
    obtain ⟨A, cap, vs, ev, hr, hfx, hnil, hnone, hspot, hcap, hmax, htl⟩ := rx.sl_inv
    have hcn : cap = n := htl
    obtain ⟨hlen, hk⟩ := hk
    obtain ⟨B, m, c', ys, news, ev2, hr2, hl2, hc2, h12, hB, hm, hbnd, h47, hk⟩ := rdSl_inv hs.heap ry hk
    cases B with
    | none => have := hB rfl; omega
    | some B =>
      have hvl : vs.length = n * i.size := by rw [hr.1]; exact hlen
      obtain ⟨cap', arr, hrun, hge, hle, harr⟩ := run_append_new (P := P) w t o.type e' i zv hu hi hzv A n cap vs hvl
        (fun j v hv => by obtain ⟨ad, e1, e2, e3⟩ := hfx j v hv; exact ⟨ad, e1, by rw [add_eq e2]; exact (hs.heap.fx _ _ _ e3).1⟩) hnone B m c' news hl2 (fun j u hu' => by obtain ⟨b, e1, e2⟩ := hc2 j u hu'; cases e1; exact e2) (by omega) (by omega) hbnd
      have hone : ∀ v ∈ vs ++ news, v.oneCell' = true := by
        intro v hv
        rcases List.mem_append.1 hv with hv | hv
        · obtain ⟨j, hj, rfl⟩ := List.getElem_of_mem hv
          obtain ⟨ad, e1, e2, e3⟩ := hfx j _ (List.getElem?_eq_getElem hj)
          exact (hs.heap.fx _ _ _ e3).2
        · exact h12 v hv
      have hg : (w.drew.alloc (.cells arr e')).heap[w.heap.size]? = some (.cells arr e' (0, 0)) := push_new w.drew _
      obtain ⟨s', b1, b2, b3, b4⟩ := hs.heap.growBlk (Later.drew_alloc w (.cells arr e')) hg (hr.append hr2) hone hz1 hzs (p := cap' - (n + m)) (by rw [harr]; simp)
      unfold Oper.wp
      have hexec : (execOp a.eval o).run P w = ((Builtin.append_ #[t, t] o.type #[.slice A n cap, .slice (some B) m c']).run P w).andThen fun v w' => .ok (.value v) w' := by
        simp [execOp, ho, resolve, hc, ha, hty, invoke, builtin, ev, ev2]
      rw [hexec, hrun]
      exact hn s' _ _ _ _ b1 b2 (.msl s.nb 0 (n + m) (some cap') w.heap.size cap' b3 hge hle (fun q hq => by cases hq; rfl)) (hk s.nb cap' hge b4)
  · rename_i b off n q hb
    rw [hb] at rx
    obtain ⟨c', k, ev, hc', hnk, hmax, hq⟩ := rx.msl_inv
    obtain ⟨B, m, cc, ys, news, ev2, hr2, hl2, hc2, h12, hB, cs, hcs, hbnd, h47, hfit0, hin, hgr⟩ := rdSl_inv hs.heap ry hk
    have hqk := hq q rfl
    have hyl : ys.length = m * i.size := by rw [← hr2.1, hl2]
    by_cases hnm : n + m ≤ q
    · obtain ⟨hfit, hk⟩ := hin hnm
      obtain ⟨w', hrun, hh⟩ := run_store_blk (P := P) hs.heap hcs hc' hr2 (fun v hv => h12 v hv) (off := off + n * i.size) (by rw [hyl]; rw [Nat.add_mul] at hfit; omega)
      have hread : (Builtin.firstCells i.size m (.slice B m cc)).run P w = .ok news.toArray w := by
        cases B with
        | none =>
          have hm0 := hB rfl
          subst hm0
          have : news = [] := List.eq_nil_of_length_eq_zero (by rw [hl2]; simp)
          subst this
          simp [Builtin.firstCells]
        | some B => exact run_firstCells_some (P := P) w i.size m B m cc news hl2 (fun j u hu' => by obtain ⟨b, e1, e2⟩ := hc2 j u hu'; cases e1; exact e2)
      have hrun' : (execOp a.eval o).run P w = .ok (.value (.slice (some ⟨c', off, none⟩) (n + m) k)) w' := by
        have hle : n + m ≤ k := by omega
        simp [execOp, ho, resolve, hc, ha, hty, invoke, builtin, ev, ev2, Builtin.append_, run_underlying hu, sizeOf, typeInfo, hi, Builtin.lenOf, hle, hread, Addr.add_lit, hrun]
      unfold Oper.wp
      rw [hrun']
      exact hn s _ _ _ w' (Sg.le.refl s) hh (.msl b off (n + m) (some q) c' k hc' (by omega) hmax (fun q' hq' => by cases hq'; exact hqk)) hk
    · have hk := hgr (by omega)
      obtain ⟨A, n', cap, os, olds, evA, hrA, hlA, hcA, h1A, hA, hn', hos⟩ := rdSl_inv (size := i.size) (K := fun m' ys' => m' = n ∧ ys' = (cs.drop off).take (n * i.size)) hs.heap rx ⟨cs, hcs, hfit0, rfl, rfl⟩
      subst hn'
      subst hos
      have hA2 : A = some ⟨c', off, none⟩ ∧ cap = k := by rw [ev] at evA; cases evA; exact ⟨rfl, rfl⟩
      obtain ⟨rfl, rfl⟩ := hA2
      cases B with
      | none => have := hB rfl; omega
      | some B =>
        obtain ⟨cap', arr, hrun, hge, hle, harr⟩ := run_append_new (P := P) w t o.type e' i zv hu hi hzv (some ⟨c', off, none⟩) n' cap olds hlA
          hcA (fun hh => by cases hh) B m cc news hl2 (fun j u hu' => by obtain ⟨b, e1, e2⟩ := hc2 j u hu'; cases e1; exact e2) (by omega) (by omega) hbnd
        have hone : ∀ v ∈ olds ++ news, v.oneCell' = true := by
          intro v hv
          rcases List.mem_append.1 hv with hv | hv
          · exact h1A v hv
          · exact h12 v hv
        have hg : (w.drew.alloc (.cells arr e')).heap[w.heap.size]? = some (.cells arr e' (0, 0)) := push_new w.drew _
        obtain ⟨s', b1, b2, b3, b4⟩ := hs.heap.growBlk (Later.drew_alloc w (.cells arr e')) hg (hrA.append hr2) hone hz1 hzs (p := cap' - (n' + m)) (by rw [harr]; simp)
        unfold Oper.wp
        have hexec : (execOp a.eval o).run P w = ((Builtin.append_ #[t, t] o.type #[.slice (some ⟨c', off, none⟩) n' cap, .slice (some B) m cc]).run P w).andThen fun v w' => .ok (.value v) w' := by
          simp [execOp, ho, resolve, hc, ha, hty, invoke, builtin, ev, ev2]
        rw [hexec, hrun]
        exact hn s' _ _ _ _ b1 b2 (.msl s.nb 0 (n' + m) (some cap') w.heap.size cap' b3 hge hle (fun q hq => by cases hq; rfl)) (hk s.nb cap' hge b4)
  · exact hk.elim

theorem sS_clear {P : Program} {o : Oper} {t e' : TypeId} {x : Operand} {ax : Arg} {c : Call} {z : List AV} {n0 : Nat} (ho : o.op = .call c) (hc : c.callee = .builtin .clear) (ha : c.args = #[x]) (hty : c.argTypes = #[t])
    (hu : P.underlying t = some (.slice e')) (hz : zeroT P e' = some z) (hsz : sizeT P e' = some n0) (hpos : n0 ≠ 0) (hx : cArg x = some ax) : SSound P o (.clear n0 z ax) := by
  intro N s e h w0 own a w hs K hk next Q hn
  have rx := cArg_rel hs hx
  obtain ⟨i, zv, hi, hzv, hzr, hz1, hzl⟩ := zeroT_inv hz s
  have hisz : i.size = n0 := by simpa [sizeT, hi] using hsz
  simp only [evS] at hk
  split at hk
  · rename_i b off n cap hb
    rw [hb] at rx
    obtain ⟨c', k, ev, hc', hnk, hmax, hq⟩ := rx.msl_inv
    obtain ⟨cs, hcs, hfit, hk⟩ := hk
    by_cases hn0 : n = 0
    · subst hn0
      have hrun' : (execOp a.eval o).run P w = .ok (.value (.tuple #[])) w := by
        simp [execOp, ho, resolve, hc, ha, hty, invoke, builtin, ev, Builtin.clear_, run_underlying hu]
      unfold Oper.wp
      rw [hrun']
      refine hn s _ _ _ w (Sg.le.refl s) ?_ (.tup [] [] rfl (by simp)) hk
      have : h.put b (spl cs off (List.replicate 0 z).flatten) = h := by
        simp only [List.replicate, List.flatten_nil, spl]
        cases h with
        | mk blk tok mp =>
          simp only [AH.put, AH.mk.injEq, and_true]
          funext d
          by_cases hd : d = b
          · subst hd; simp; exact hcs.symm
          · simp [hd]
      rw [this]; exact hs.heap
    · have hzs : zv.cells.size = n0 := by rw [← hisz, ← hzl, ← hzr.1]; simp
      have hzrel := zeros_rel (s := s) hzr (by rw [hzl, hisz]; omega) n
      have hone : ∀ v ∈ (Builtin.zeroCells zv.cells n).toList, v.oneCell' = true := by
        intro v hv
        simp only [Builtin.zeroCells, Array.toList_map, List.mem_map] at hv
        obtain ⟨j, hj, rfl⟩ := hv
        have hm : j % zv.cells.size < zv.cells.size := Nat.mod_lt _ (by omega)
        rw [getElem!_pos zv.cells _ hm]
        exact hz1 _ (by simp)
      have hzl2 : (List.replicate n z).flatten.length = n * n0 := by simp [hzl, hisz]
      obtain ⟨w', hrun, hh⟩ := run_store_blk (P := P) hs.heap hcs hc' (xs := (List.replicate n z).flatten) (us := (Builtin.zeroCells zv.cells n).toList) hzrel hone (off := off) (by rw [hzl2]; exact hfit)
      have hrun' : (execOp a.eval o).run P w = .ok (.value (.tuple #[])) w' := by
        cases n with
        | zero => exact absurd rfl hn0
        | succ n => simp [execOp, ho, resolve, hc, ha, hty, invoke, builtin, ev, Builtin.clear_, run_underlying hu, zeroValue, typeInfo, hi, hzv, hrun]
      unfold Oper.wp
      rw [hrun']
      exact hn s _ _ _ w' (Sg.le.refl s) hh (.tup [] [] rfl (by simp)) hk
  · exact hk.elim
end Go.Abs
