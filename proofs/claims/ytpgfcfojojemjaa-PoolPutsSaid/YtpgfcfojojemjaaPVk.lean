/- Slice literals, conversions; then every quiet operation. -/
import Derived.Test.YtpgfcfojojemjaaPVj
namespace Go.PV
set_option linter.unusedVariables false
set_option linter.unusedSimpArgs false
section
variable {P : Program} {w0 w : World} {G0 G : Gh} {s : St} {a : Act} {heap : List (List V)} {own : List (Nat × Nat)} {next : Nat}

theorem wrL_eq {α : Type} : ∀ (ys : List α) (A : List α) (B : List α) (C : List α), B.length = ys.length → wrL (A ++ B ++ C) A.length ys = A ++ ys ++ C
  | [],A, [],C,_ => rfl
  | y :: ys,A,b :: B,C,h => by
    have := wrL_eq ys (A ++ [y]) B C (by simpa using h)
    simp only [wrL]
    rw [show (A ++ b :: B ++ C).set A.length y = A ++ [y] ++ B ++ C from by simp,show A.length + 1 = (A ++ [y]).length from by simp,this]
    simp
  | [],_,_ :: _,_,h => by simp at h
  | _ :: _,_, [],_,h => by simp at h

theorem fill_all {α : Type} {sz : Nat} : ∀ (ps : List (Nat × List α)) (m : Nat) (A C : List α), ps.map (·.1) = List.range' m ps.length → (∀ p ∈ ps, p.2.length = sz) → A.length = m * sz → C.length = ps.length * sz →
    fillV (fun i => some (i * sz,sz)) (A ++ C) ps = some (A ++ (ps.map (·.2)).flatten)
  | [],m,A,C,_,_,_,hC => by
    have : C = [] := List.eq_nil_of_length_eq_zero (by simpa using hC)
    subst this
    simp [fillV]
  | (i,v) :: r,m,A,C,h,hv,hA,hC => by
    simp only [List.map_cons,List.length_cons,List.range'_succ,List.cons.injEq] at h
    obtain ⟨rfl,h⟩ := h
    have hvl := hv (i,v) (by simp)
    simp only at hvl
    simp only [List.length_cons,Nat.add_mul,Nat.one_mul] at hC
    simp only [fillV]
    rw [if_neg (by simp; omega)]
    have hsplit : C = C.take sz ++ C.drop sz := (List.take_append_drop _ _).symm
    have h1 : wrL (A ++ C) (i * sz) v = A ++ v ++ C.drop sz := by
      rw [hsplit,← List.append_assoc,← hA,wrL_eq v A (C.take sz) (C.drop sz) (by simp; omega)]
      simp
    rw [h1,fill_all r (i + 1) (A ++ v) (C.drop sz) h (fun p hp => hv p (by simp [hp])) (by simp [hA,hvl,Nat.add_mul]) (by simp; omega)]
    simp

theorem LR.append {a1 a2 : List Value} {b1 b2 : List V} (h1 : LR w G a1 b1) (h2 : LR w G a2 b2) : LR w G (a1 ++ a2) (b1 ++ b2) := by
  refine ⟨by simp [h1.len,h2.len],fun k y hk => ?_⟩
  rcases Nat.lt_or_ge k b1.length with h | h
  · rw [List.getElem?_append_left h] at hk
    rw [List.getD,List.getElem?_append_left (by rw [h1.len]; exact h)]
    exact h1.rep k y hk
  · rw [List.getElem?_append_right h] at hk
    rw [List.getD,List.getElem?_append_right (by rw [h1.len]; exact h),h1.len]
    exact h2.rep _ y hk

theorem LR.flat {vs : List V} (hv : ∀ v ∈ vs, v.cells.all V.isCell = true) : ∀ {us : List Value}, LR w G us vs → LR w G (us.map fun v => v.cells.toList).flatten (flat vs) := by
  induction vs with
  | nil =>
    intro us h
    have : us = [] := List.eq_nil_of_length_eq_zero (by simpa using h.len)
    subst this
    exact ⟨rfl,fun k y hk => by simp [PV.flat] at hk⟩
  | cons v vs ih =>
    intro us h
    cases us with
    | nil => have := h.len; simp at this
    | cons u us =>
      have h0 := h.rep 0 v rfl
      simp only [List.getD_cons_zero] at h0
      have hc := h0.cells (hv v (by simp))
      rw [flat_cons,List.map_cons,List.flatten_cons]
      refine LR.append ⟨by simpa using hc.1,fun k y hk => ?_⟩ (ih (fun x hx => hv x (by simp [hx])) ⟨by have := h.len; simpa using this,fun j y hj => by have := h.rep (j + 1) y (by simpa using hj); simpa using this⟩)
      have := hc.2 k y hk
      rwa [Array.getD_eq_getD_getElem?,← Array.getElem?_toList,← List.getD] at this

theorem LR.mono {w' : World} {G' : Gh} {us : List Value} {vs : List V} (h : LR w G us vs) (m : Mono w G w' G') : LR w' G' us vs := ⟨h.len, fun k y hk => (h.rep k y hk).mono m⟩

/-- a new row whose first cells are a slice's elements, and last -/
theorem newRow_good (I : Inv w0 G0 heap own next w G) (arr : Array Value) (e : TypeId) (fr : Nat × Nat) (n : Nat) (hn : n ≤ arr.size) :
    Inv w0 G0 heap own next (w.alloc (.cells arr e fr)) (G.addS w.heap.size 0 n) ∧ Mono w G (w.alloc (.cells arr e fr)) (G.addS w.heap.size 0 n) := by
  obtain ⟨I1,m1⟩ := I.alloc (.cells arr e fr)
  obtain ⟨I2,m2⟩ := I1.addS w.heap.size 0 n ⟨arr,e,fr,heap_push_new _ _,hn⟩
    (fun b hb => by have := I.heap.lt hb; omega)
    (fun id k T j hT hb hj => by
      obtain ⟨a1,e1,f1,ha,_⟩ := I.own.there id k T hT
      have := some_lt ha; omega)
    (fun k _ _ => .inr I.since.size)
  exact ⟨I2,m1.trans m2⟩

theorem buildSlice_good (I : Inv w0 G0 heap own next w G) (hs : SR w G a.tmps s.slots) {t : TypeId} {len : Nat} {parts : Array (Nat × Operand)} {x : V} (h : buildSliceV P s t len parts.toList = some x) :
    Good P w0 G0 heap own next (do pure (.value (← Instr.buildSlice t len (parts.map fun (p : Nat × Operand) => (p.1,a.eval p.2))))) w G x := by
  unfold buildSliceV at h
  split at h
  · rename_i i hi
    obtain ⟨info,d,h1,h2,rfl⟩ := ti_spec hi
    simp only at h
    split at h
    · rename_i e hd
      cases d with
      | slice e' =>
        obtain rfl : e' = e := by simpa [tdOf] using hd
        split at h
        · rename_i ie hie
          split at h
          · rename_i vs hvs
            split at h
            · rename_i hc
              obtain ⟨hidx,hsz,hlen,hz,hall⟩ := hc
              obtain rfl := Option.some.inj h
              obtain ⟨z,hz⟩ := Option.isSome_iff_exists.1 hz
              obtain ⟨zv,hz1,hz2,hz3⟩ := zero_run (P := P) (w := w) (G := G) hie hz
              have hie' := hie
              obtain ⟨info',d',h1',h2',rfl⟩ := ti_spec hie
              simp only at hsz hlen hz hall ⊢
              have hL := evL_rep hs hvs
              have hpl : parts.toList.length = len := by have := congrArg List.length hidx; simpa using this
              have hvl : vs.length = len := by rw [← hL.len]; simpa using hpl
              have hcl : ∀ v ∈ vs,v.clean = true ∧ v.cells.length = info'.size := by
                intro v hv
                have := List.all_eq_true.1 hall v hv
                simpa using this
              have hcc : ∀ v ∈ vs,v.cells.all V.isCell = true := fun v hv => by
                have := (hcl v hv).1
                simp only [V.clean,List.all_eq_true] at this ⊢
                exact fun y hy => V.clean_isCell (this y hy)
              have hus : (parts.toList.map (·.2)).map a.eval = parts.toList.map fun p => a.eval p.2 := by simp
              rw [hus] at hL
              have hF := LR.flat hcc hL
              let ps : List (Nat × List Value) := ((parts.map fun (p : Nat × Operand) => (p.1,a.eval p.2)).toList).map fun p => (p.1,p.2.cells.toList)
              have hps : ps = parts.toList.map fun p => (p.1,(a.eval p.2).cells.toList) := by simp [ps]
              let C : Array Value := if len * info'.size = 0 then #[] else (Array.range (len * info'.size)).map (zv.cells[· % zv.cells.size]!)
              have hC : C.size = len * info'.size := by
                simp only [C]; split
                · simp_all
                · simp
              have hfill : fillV (fun i => some (i * info'.size,info'.size)) C.toList ps = some ((ps.map (·.2)).flatten) := by
                have := fill_all (sz := info'.size) ps 0 [] C.toList (by rw [hps]; simp only [List.map_map,List.length_map,hpl]; rw [← List.range_eq_range',← hidx]; simp [Function.comp_def]) (fun p hp => by
                    rw [hps] at hp
                    obtain ⟨q,hq,rfl⟩ := List.mem_map.1 hp
                    obtain ⟨k,hk,hkq⟩ := List.mem_iff_getElem.1 hq
                    have hkl : k < vs.length := by omega
                    have hr := hL.rep k vs[k] (List.getElem?_eq_getElem hkl)
                    have : (parts.toList.map fun p => a.eval p.2).getD k undef = a.eval q.2 := by
                      simp only [List.getD,List.getElem?_map,List.getElem?_eq_getElem hk,hkq,Option.map_some,Option.getD_some]
                    rw [this] at hr
                    have := (hr.cells (hcc _ (List.getElem_mem hkl))).1
                    simp only [Array.length_toList]
                    rw [this]; exact (hcl _ (List.getElem_mem hkl)).2) (by simp) (by rw [Array.length_toList,hC,hps]; simp [hpl])
                simpa using this
              have hpf : (ps.map (·.2)).flatten = ((parts.toList.map fun p => a.eval p.2).map fun v => v.cells.toList).flatten := by rw [hps]; simp [Function.comp_def]
              rw [hpf] at hfill
              obtain ⟨cells,hcd⟩ : ∃ cells,cells = ((parts.toList.map fun p => a.eval p.2).map fun v => v.cells.toList).flatten := ⟨_,rfl⟩
              rw [← hcd] at hfill hF
              have hcells : cells.length = len * info'.size := by
                have := hF.len
                rw [flat_length (fun v hv => (hcl v hv).2),hvl] at this
                exact this
              obtain ⟨I',m'⟩ := newRow_good I cells.toArray e' (0,0) (len * info'.size) (by simp [hcells])
              refine ⟨.slice (some ⟨w.heap.size,0,none⟩) len len,w.alloc (.cells cells.toArray e'),_, ?_, ?_,I',m'⟩
              · have hnot : ¬ (len * info'.size > 2 ^ 24) := by omega
                simp only [Instr.buildSlice,Sem.run_bind,run_und h2,Result.andThen_ok,run_size h1',Sem.run_ite,if_neg hnot]
                by_cases h0 : len * info'.size = 0
                · have hC0 : C = #[] := by simp only [C]; rw [if_pos h0]
                  rw [hC0] at hfill
                  simp only [if_pos h0,Sem.run_pure,Result.andThen_ok,fill_eq]
                  have hfill' : fillV (fun i => some (i * info'.size,info'.size)) ((Array.range (len * info'.size)).map ((#[] : Array Value)[· % (#[] : Array Value).size]!)).toList ps = some cells := by
                    rw [h0]; simpa using hfill
                  rw [hfill']
                  simp [newRow]
                · have hC1 : C = (Array.range (len * info'.size)).map (zv.cells[· % zv.cells.size]!) := by simp only [C]; rw [if_neg h0]
                  rw [hC1] at hfill
                  simp only [if_neg h0,Sem.run_bind,hz1,Sem.run_pure,Result.andThen_ok,fill_eq]
                  rw [hfill]
                  simp [newRow]
              · have hF' := hF.mono m'
                have := SliceAt.rep (w := w.alloc (.cells cells.toArray e')) (G := G.addS w.heap.size 0 (len * info'.size)) (B := w.heap.size) (o := 0) (cap := vs.length) (sz := info'.size) (l := vs) (ex := true) (tok := none)
                  ⟨Nat.le_refl _,fun _ => rfl,hsz,fun v hv => ⟨(hcl v hv).2,(hcl v hv).1⟩,fun k y hk => by
                    have hkl : k < len * info'.size := by
                      have := (List.getElem?_eq_some_iff.1 hk).1
                      rwa [flat_length (fun v hv => (hcl v hv).2),hvl] at this
                    refine ⟨.inr ⟨rfl,by omega,by omega⟩,cells.getD k undef, ?_,hF'.rep k y hk⟩
                    rw [Nat.zero_add,cell_eq (heap_push_new _ _)]
                    simp [show k < cells.length from by omega] ,by simp⟩
                rwa [hvl] at this
            · simp at h
          · simp at h
        · simp at h
      | _ => simp [tdOf] at hd
    · simp at h
  · simp at h
end
end Go.PV
