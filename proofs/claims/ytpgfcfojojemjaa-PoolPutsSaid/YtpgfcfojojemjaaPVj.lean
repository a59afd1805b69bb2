/- Composite literals, conversions; then every quiet operation. -/
import Derived.Test.YtpgfcfojojemjaaPVi
import Derived.Laws.IdiomStrings
namespace Go.PV
set_option linter.unusedVariables false
set_option linter.unusedSimpArgs false
section
variable {P : Program} {w0 w : World} {G0 G : Gh} {s : St} {a : Act} {heap : List (List V)} {own : List (Nat × Nat)} {next : Nat}

/-! ## parts laid into cells -/
theorem foldl_wrL : ∀ (l : List Value) (off j : Nat) (cells : Array Value), ((l.zipIdx j).foldl (fun cs (p : Value × Nat) => cs.setIfInBounds (off + p.2) p.1) cells).toList = wrL cells.toList (off + j) l
  | [],_,_,_ => rfl
  | c :: l,off,j,cells => by
    rw [List.zipIdx_cons,List.foldl_cons,foldl_wrL l off (j + 1)]
    simp [wrL,Nat.add_assoc]

theorem fill_eq (place : Nat → Option (Nat × Nat)) : ∀ (ps : List (Nat × Value)) (cells : Array Value),
    Instr.fill place cells ps = (fillV place cells.toList (ps.map fun p => (p.1,p.2.cells.toList))).map List.toArray
  | [],cells => by simp [Instr.fill,fillV]
  | (i,v) :: r,cells => by
    simp only [Instr.fill,List.map_cons,fillV]
    cases place i with
    | none => rfl
    | some p =>
      obtain ⟨off,size⟩ := p
      dsimp only
      rw [Array.length_toList,Array.length_toList]
      by_cases h : v.cells.size ≠ size ∨ off + v.cells.size > cells.size
      · rw [if_pos h]
        have : (decide (v.cells.size ≠ size) || decide (off + v.cells.size > cells.size)) = true := by simpa using h
        rw [if_pos this]; rfl
      · rw [if_neg h]
        have : ¬ ((decide (v.cells.size ≠ size) || decide (off + v.cells.size > cells.size)) = true) := by simpa using h
        rw [if_neg this,fill_eq place r]
        congr 2
        rw [← Array.foldl_toList,Array.toList_zipIdx]
        have := foldl_wrL v.cells.toList off 0 cells
        rw [Nat.add_zero] at this
        exact this

theorem LR.wr {cs vs : List Value} {xs ys : List V} (h : LR w G cs xs) (hv : LR w G vs ys) (o : Nat) (hl : o + ys.length ≤ xs.length) : LR w G (wrL cs o vs) (wrL xs o ys) := by
  refine ⟨by rw [wrL_length,wrL_length,h.len],fun k y hk => ?_⟩
  by_cases hko : o ≤ k ∧ k < o + ys.length
  · obtain ⟨j,rfl⟩ : ∃ j,k = o + j := ⟨k - o,by omega⟩
    rw [wrL_in ys xs o j hl (by omega)] at hk
    have := hv.rep j y hk
    rw [List.getD,wrL_in vs cs o j (by rw [hv.len,h.len]; exact hl) (by rw [hv.len]; omega)]
    rwa [List.getD] at this
  · rw [wrL_out ys xs o k hko] at hk
    have := h.rep k y hk
    rw [List.getD,wrL_out vs cs o k (by rw [hv.len]; exact hko)]
    rwa [List.getD] at this

/-- parts, represented -/
inductive PR (w : World) (G : Gh) : List (Nat × List Value) → List (Nat × List V) → Prop
  | nil : PR w G [] []
  | cons (i : Nat) (vs : List Value) (ys : List V) (r : List (Nat × List Value)) (q : List (Nat × List V)) (h : LR w G vs ys) (ht : PR w G r q) : PR w G ((i,vs) :: r) ((i,ys) :: q)

theorem fillV_rep (place : Nat → Option (Nat × Nat)) {ps : List (Nat × List Value)} {qs : List (Nat × List V)} (h : PR w G ps qs) : ∀ {cs : List Value} {xs xs' : List V}, LR w G cs xs →
    fillV place xs qs = some xs' → ∃ cs',fillV place cs ps = some cs' ∧ LR w G cs' xs' := by
  induction h with
  | nil => intro cs xs xs' hl h; obtain rfl := Option.some.inj h; exact ⟨cs,rfl,hl⟩
  | cons i vs ys r q hv ht ih =>
    intro cs xs xs' hl h
    simp only [fillV] at h ⊢
    cases hp : place i with
    | none => simp [hp] at h
    | some p =>
      obtain ⟨off,size⟩ := p
      rw [hp] at h
      dsimp only at h ⊢
      split at h
      · simp at h
      · rename_i hc
        rw [hv.len,hl.len,if_neg hc]
        exact ih (hl.wr hv off (by omega)) h

theorem evParts_rep (hs : SR w G a.tmps s.slots) : ∀ {ps : List (Nat × Operand)} {qs : List (Nat × List V)}, evParts s ps = some qs →
    PR w G ((ps.map fun p => (p.1,a.eval p.2)).map fun p => (p.1,p.2.cells.toList)) qs ∧ (∀ q ∈ qs,q.2.all V.isCell = true)
  | [],qs,h => by obtain rfl := Option.some.inj h; exact ⟨.nil,by simp⟩
  | (i,x) :: r,qs,h => by
    simp only [evParts] at h
    split at h
    · rename_i v vs h1 h2
      split at h
      · rename_i hc
        obtain rfl := Option.some.inj h
        have ih := evParts_rep hs h2
        have hr := (ev_rep hs h1).cells hc
        refine ⟨.cons i _ _ _ _ ⟨by simpa using hr.1,fun k y hk => ?_⟩ ih.1, ?_⟩
        · have := hr.2 k y hk
          rwa [Array.getD_eq_getD_getElem?,← Array.getElem?_toList,← List.getD] at this
        · intro q hq
          rcases List.mem_cons.1 hq with rfl | hq
          · exact hc
          · exact ih.2 q hq
      · simp at h
    · simp at h

theorem places_run {ts : List Field} : ∀ {pl : List (Nat × Nat)}, placesOf P (ts.map fun f => (f.offset, f.type)) = some pl →
    ((ts.mapM fun f => do pure (f.offset,← sizeOf f.type) : Sem (List (Nat × Nat)))).run P w = .ok pl w := by
  induction ts with
  | nil => intro pl h; obtain rfl := Option.some.inj h; rfl
  | cons f ts ih =>
    intro pl h
    simp only [List.map_cons,placesOf] at h
    split at h
    · rename_i i ps h1 h2
      obtain rfl := Option.some.inj h
      obtain ⟨info,d,g1,g2,rfl⟩ := ti_spec h1
      simp only [List.mapM_cons,Sem.run_bind,run_size g1,ih h2,Result.andThen_ok,Sem.run_pure]
    · simp at h

theorem zero_run {t : TypeId} {i : TI} (ht : ti P t = some i) {z : List V} (hz : i.z = some z) : ∃ v, (zeroValue t).run P w = .ok v w ∧ LR w G v.cells.toList z ∧ ∀ y ∈ z, y.isCell = true ∧ y.cleanC = true := by
  obtain ⟨info,d,h1,h2,rfl⟩ := ti_spec ht
  simp only at hz
  cases hzz : info.zero with
  | none => simp [hzz] at hz
  | some v =>
    simp only [hzz,Option.bind_some] at hz
    obtain ⟨hl,hr⟩ := absL_rep hz w G
    refine ⟨v,by simp [zeroValue,run_info h1,hzz],⟨hl,fun k y hk => (hr k y hk).1⟩,fun y hy => ?_⟩
    obtain ⟨k,hk,rfl⟩ := List.mem_iff_getElem.1 hy
    exact (hr k _ (List.getElem?_eq_getElem hk)).2

theorem LR.agg {cs : List Value} {xs : List V} (h : LR w G cs xs) : Rep w G (.agg cs.toArray) (.agg xs) :=
  .agg _ _ (by simpa using h.len) (fun k y hk => by have := h.rep k y hk; simpa [List.getD] using this)

theorem build_run (hs : SR w G a.tmps s.slots) {t : TypeId} {parts : Array (Nat × Operand)} {x : V} (h : buildV P s t parts.toList = some x) :
    ∃ v,(Instr.build t (parts.map fun (p : Nat × Operand) => (p.1,a.eval p.2))).run P w = .ok v w ∧ Rep w G v x := by
  unfold buildV at h
  split at h
  · rename_i i ps hi hps
    split at h
    · rename_i z hz
      obtain ⟨zv,hz1,hz2,hz3⟩ := zero_run (P := P) (w := w) (G := G) hi hz
      obtain ⟨info,d,h1,h2,rfl⟩ := ti_spec hi
      have hpr := (evParts_rep hs hps).1
      simp only at h
      split at h
      · rename_i fs hd
        cases d <;> simp [tdOf] at hd
        rename_i fs'
        subst hd
        split at h
        · rename_i pl hpl
          simp only [Option.map_eq_some_iff] at h
          obtain ⟨xs',hf,rfl⟩ := h
          obtain ⟨cs',hc1,hc2⟩ := fillV_rep _ hpr hz2 hf
          refine ⟨.agg cs'.toArray, ?_,hc2.agg⟩
          have hm : (fs'.mapM fun f => do pure (f.offset,← sizeOf f.type) : Sem (Array (Nat × Nat))).run P w = .ok pl.toArray w := by
            have hpl' := places_run (P := P) (w := w) hpl
            rw [Array.mapM_eq_mapM_toList]
            simp only [Sem.run_map,hpl',Result.andThen_ok]
          simp only [Instr.build,Sem.run_bind,hz1,Result.andThen_ok,run_und h2]
          simp only [hm,Sem.run_bind,Result.andThen_ok,fill_eq]
          have hc1' : fillV (fun k => pl.toArray[k]?) zv.cells.toList (((parts.map fun (p : Nat × Operand) => (p.1,a.eval p.2)).toList).map fun p => (p.1,p.2.cells.toList)) = some cs' := by
            simpa using hc1
          rw [hc1']
          simp
        · simp at h
      · rename_i n e hd
        cases d <;> simp [tdOf] at hd
        obtain ⟨rfl,rfl⟩ := hd
        split at h
        · rename_i ie hie
          obtain ⟨info',d',h1',h2',rfl⟩ := ti_spec hie
          simp only [Option.map_eq_some_iff] at h
          obtain ⟨xs',hf,rfl⟩ := h
          obtain ⟨cs',hc1,hc2⟩ := fillV_rep _ hpr hz2 hf
          refine ⟨.agg cs'.toArray, ?_,hc2.agg⟩
          simp only [Instr.build,Sem.run_bind,hz1,Result.andThen_ok,run_und h2,run_size h1',fill_eq]
          have hc1' : fillV (fun k => some (k * info'.size,info'.size)) zv.cells.toList (((parts.map fun (p : Nat × Operand) => (p.1,a.eval p.2)).toList).map fun p => (p.1,p.2.cells.toList)) = some cs' := by
            simpa using hc1
          rw [hc1']
          simp
        · simp at h
      · simp at h
    · simp at h
  · simp at h
end
end Go.PV
