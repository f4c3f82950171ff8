/- Soundness of the operations that turn nothing: literals, append onto a full slice, calls; all of them together. No condition. -/
import Derived.Test.YtidmekdkfiljjaaGreatK8
namespace Go.Abs
open Go

theorem places_run {P : Program} {w : World} : ∀ (fs : List Field) (pl : List (Nat × Nat)), placesT P fs = some pl → (fs.mapM fun f => (do pure (f.offset, ← sizeOf f.type) : Sem (Nat × Nat))).run P w = .ok pl w := by
  intro fs
  induction fs with
  | nil => intro pl h; simp [placesT] at h; subst h; rfl
  | cons f fs ih =>
    intro pl h
    simp only [placesT] at h
    obtain ⟨n, hn, h⟩ := bind_some h
    obtain ⟨r, hr, h⟩ := bind_some h
    cases h
    have := ih r hr
    simp only [List.mapM_cons, Sem.run_bind, sizeT_run hn, Result.andThen_ok, Sem.run_pure, this]

theorem sF_build {P : Program} {o : Oper} {t : TypeId} {fs : Array Field} {parts : Array (Nat × Operand)} {z : List AV} {pl : List (Nat × Nat)} {ps : List (Nat × Nat × Arg)} (ho : o.op = .build t parts) (hu : P.underlying t = some (.struct fs)) (hz : zeroT P t = some z)
    (hpl : placesT P fs.toList = some pl) (hp : cParts z.length (pl[·]?) parts.toList = some ps) : FSound P o (.build z ps) := by
  intro N s e h w0 own a w hs K hk next Q hn
  obtain ⟨i, zv, hi, hzv, hr, h1, hlen⟩ := zeroT_inv hz s
  obtain ⟨hok, hk⟩ := hk
  obtain ⟨arr', hf, hrr, _⟩ := fill_rel hs z.length _ parts.toList ps z zv.cells hp hok hr rfl h1
  refine wp_pure (v := .agg arr') ?_ (hn s _ _ w (Sg.le.refl s) hs.heap (by have := VRel.st (s := s) _ arr'.toList hrr.1 hrr.2; simpa using this) hk)
  have hpr := places_run (P := P) (w := w) fs.toList pl hpl
  have hparts : (Array.map (fun (x : Nat × Operand) => (x.1, a.eval x.2)) parts).toList = parts.toList.map fun (i, x) => (i, a.eval x) := by simp
  have hf' : Instr.fill (fun x => pl.toArray[x]?) zv.cells (parts.toList.map fun (i, x) => (i, a.eval x)) = some arr' := by
    rw [← hf]; congr 1; funext x; simp
  have hm : (fs.mapM fun f => (do pure (f.offset, ← sizeOf f.type) : Sem (Nat × Nat))).run P w = .ok pl.toArray w := by
    rw [Array.mapM_eq_mapM_toList]
    simp only [Sem.run_map, hpr, Result.andThen_ok]
  simp only [execOp, ho, Instr.build, Sem.run_bind, zeroValue, typeInfo, run_program, Result.andThen_ok, hi, hzv, Sem.run_pure, run_underlying hu, hm, hparts, hf']

theorem sF_buildSlice {P : Program} {o : Oper} {t e' : TypeId} {n size : Nat} {parts : Array (Nat × Operand)} {z : List AV} {ps : List (Nat × Nat × Arg)} (ho : o.op = .buildSlice t n parts) (hu : P.underlying t = some (.slice e')) (hsz : sizeT P e' = some size)
    (hbig : ¬ n * size > 2 ^ 24) (hz : zeroT P e' = some z) (hpos : size ≠ 0) (hp : cParts (n * size) (fun i => some (i * size, size)) parts.toList = some ps) : FSound P o (.buildSlice n size z ps) := by
  intro N s e h w0 own a w hs K hk next Q hn
  obtain ⟨i, zv, hi, hzv, hr, h1, hlen⟩ := zeroT_inv hz s
  have hisz : i.size = size := by simpa [sizeT, hi] using hsz
  have hzs : zv.cells.size = size := by rw [← hisz, ← hlen, ← hr.1]; simp
  obtain ⟨hok, hk⟩ := hk
  have hzr := zeros_rel (s := s) hr (by rw [hlen, hisz]; omega) n
  rw [hzs] at hzr
  have h1' : ∀ v ∈ ((Array.range (n * size)).map (zv.cells[· % zv.cells.size]!)).toList, v.oneCell' = true := by
    intro v hv
    simp only [Array.toList_map, List.mem_map] at hv
    obtain ⟨j, hj, rfl⟩ := hv
    have hm : j % zv.cells.size < zv.cells.size := Nat.mod_lt _ (by omega)
    rw [getElem!_pos zv.cells _ hm]
    exact h1 _ (by simp)
  rw [hzs] at h1'
  obtain ⟨arr', hf, hrr, h1''⟩ := fill_rel hs (n * size) _ parts.toList ps (List.replicate n z).flatten ((Array.range (n * size)).map (zv.cells[· % size]!)) hp hok hzr (by simp [hlen, hisz]) h1'
  have hg : (w.alloc (.cells arr' e')).heap[w.heap.size]? = some (.cells arr' e' (0, 0)) := push_new w _
  obtain ⟨b1, b2, b3⟩ := hs.heap.alloc_fx (Later.alloc w (.cells arr' e')) hg arr'.toList (by intro j v hj; simpa using hj) h1''
  have hrun : (execOp a.eval o).run P w = .ok (.value (.slice (some ⟨w.heap.size, 0, none⟩) n n)) (w.alloc (.cells arr' e')) := by
    have hbig' : ¬ (n * size > 16777216) := by simpa using hbig
    have hparts : (Array.map (fun (x : Nat × Operand) => (x.1, a.eval x.2)) parts).toList = parts.toList.map fun (i, x) => (i, a.eval x) := by simp
    by_cases h0 : n * size = 0
    · rw [h0] at hf
      simp [Array.range_zero'] at hf
      simp [execOp, ho, Instr.buildSlice, run_underlying hu, sizeT_run hsz, h0, Array.range_zero', hf, newRow]
    · simp [execOp, ho, Instr.buildSlice, run_underlying hu, sizeT_run hsz, h0, hbig', zeroValue, typeInfo, hi, hzv, hzs, hf, newRow]
  unfold Oper.wp
  rw [hrun]
  refine hn _ _ _ _ b1 b2 (.sl false n _ .full (some ⟨w.heap.size, 0, none⟩) n arr'.toList (hrr.mono b1).1 (hrr.mono b1).2 (fun j v hv => ⟨_, rfl, rfl, by simpa using b3 j v hv⟩) rfl (by simp) (by simp) (Nat.le_refl _) ?_ rfl) hk
  have : n ≤ n * size := Nat.le_mul_of_pos_right n (by omega)
  omega
end Go.Abs
