/- Every operation that makes or writes memory. -/
import Derived.Test.YtpgfcfojojemjaaPVo
namespace Go.PV
set_option linter.unusedVariables false
set_option linter.unusedSimpArgs false
section
variable {P : Program} {w0 w : World} {G0 G : Gh} {s : St} {a : Act}

/-- the operation yields a value or nothing; the abstract state's other parts have turned as told -/
def LGood (P : Program) (w0 : World) (G0 : Gh) (c : Sem Next) (w : World) (G : Gh) (x : V) (heap : List (List V)) (own : List (Nat × Nat)) (next : Nat) : Prop :=
  ∃ v w' G',(c.run P w = .ok (.value v) w' ∨ (c.run P w = .ok .skip w' ∧ v = undef)) ∧ Rep w' G' v x ∧ Inv w0 G0 heap own next w' G' ∧ Mono w G w' G'

theorem Rep.cellsLR {v : Value} {x : V} (h : Rep w G v x) (hx : x.cells.all V.isCell = true) : LR w G v.cells.toList x.cells ∧ v.cells.size = x.cells.length := by
  obtain ⟨h1,h2⟩ := h.cells hx
  exact ⟨⟨by simpa using h1,fun k y hk => by have := h2 k y hk; rwa [Array.getD_eq_getD_getElem?,← Array.getElem?_toList,← List.getD] at this⟩,h1⟩

theorem newVar_good {heap own next} (I : Inv w0 G0 heap own next w G) (t : TypeId) {v : Value} {x : V} (h : Rep w G v x) (hx : x.cells.all V.isCell = true) :
    LGood P w0 G0 (do pure (.value (.pointer (some (← newVar t v))))) w G (.ptr heap.length 0) (heap ++ [x.cells]) own next := by
  obtain ⟨h1,h2⟩ := h.cells hx
  obtain ⟨I',m'⟩ := I.newVar v.cells t x.cells h1 (fun k y hk => ⟨List.all_eq_true.1 hx y (List.mem_of_getElem? hk),h2 k y hk⟩)
  have hnb := I.heap.nb
  refine ⟨.pointer (some ⟨w.heap.size,0,none⟩),_,_, .inl (by simp [newVar,newRow]), ?_,I',m'⟩
  have := Rep.ptr (w := w.alloc (.cells v.cells t)) (G := G.addB w.heap.size) heap.length 0 (by simp [Gh.addB,hnb])
  simpa [Gh.addB,hnb] using this

theorem wrap_small {n : Int} (h0 : -9223372036854775808 ≤ n) (h1 : n ≤ 9223372036854775807) : IntKind.i64.wrap n = n := by
  have e1 : IntKind.i64.bits = 64 := rfl
  have e2 : IntKind.i64.signed = true := rfl
  unfold IntKind.wrap
  simp only [e1,e2,Bool.true_and]
  split
  · rename_i h; simp at h; omega
  · rename_i h; simp at h; omega

theorem undef_rep : Rep w G undef (.tup []) := .tup #[] [] rfl (fun k y hk => by simp at hk)

theorem loudV_good (I : Inv w0 G0 s.heap s.own s.next w G) (hs : SR w G a.tmps s.slots) {o : Oper} {x : V} {heap : List (List V)} {own : List (Nat × Nat)} {next : Nat}
    (h : loudV P s o.op = some (x,heap,own,next)) : LGood P w0 G0 (execOp a.eval o) w G x heap own next := by
  obtain ⟨dst,op,ty,pos,after,guard⟩ := o
  simp only at h
  cases op
  case call c =>
    obtain ⟨callee,args,ts⟩ := c
    cases callee with
    | value f => simp [loudV] at h
    | invoke r m => simp [loudV] at h
    | builtin b =>
      cases b <;> first | (simp [loudV] at h; done) | skip
      simp only [loudV] at h
      split at h
      · rename_i y z t u hargs hts
        split at h
        · rename_i i j b v hi hj hb hv
          split at h
          · rename_i e hd hk
            split at h
            · rename_i ie hie
              split at h
              · rename_i zz m hz hm
                split at h
                · rename_i hc
                  split at h
                  · rename_i r own' next' happ
                    obtain ⟨rfl,rfl,rfl,rfl⟩ : r = x ∧ s.heap = heap ∧ own' = own ∧ next' = next := by simpa using h
                    obtain ⟨info,zv,T⟩ := appT hts hi hj hd hk hie hz hc.2.1 hc.2.2
                    have hargs' : args = #[y,z] := by cases args; simp at hargs; simp [hargs]
                    subst hargs'
                    obtain ⟨rv,w',G',hrun,hr,I',m'⟩ := append_good (P := P) I T hc.1 ty (ev_rep hs hb) (ev_rep hs hv) hm happ
                    exact ⟨rv,w',G', .inl (by simp [execOp,resolve,invoke,builtin,hrun]),hr,I',m'⟩
                  · simp at h
                · simp at h
              · simp at h
            · simp at h
          · simp at h
        · simp at h
      · simp at h
  all_goals simp only [loudV] at h
  all_goals first | (simp at h; done) | skip
  case alloc t =>
    split at h
    · rename_i i hi
      split at h
      · rename_i z hz
        obtain ⟨rfl,rfl,rfl,rfl⟩ : V.ptr s.heap.length 0 = x ∧ s.heap ++ [z] = heap ∧ s.own = own ∧ s.next = next := by simpa using h
        obtain ⟨zv,hz1,hz2,hz3⟩ := zero_run (P := P) (w := w) (G := G) hi hz
        have hrep : (V.agg z).cells = z := rfl
        have hall : z.all V.isCell = true := List.all_eq_true.2 fun y hy => (hz3 y hy).1
        obtain ⟨I',m'⟩ := I.newVar zv.cells t z (by simpa using hz2.len) (fun k y hk => ⟨(hz3 y (List.mem_of_getElem? hk)).1,by
          have := hz2.rep k y hk
          rwa [Array.getD_eq_getD_getElem?,← Array.getElem?_toList,← List.getD]⟩)
        have hnb := I.heap.nb
        refine ⟨.pointer (some ⟨w.heap.size,0,none⟩),_,_, .inl (by simp [execOp,Instr.alloc,hz1,newVar,newRow]), ?_,I',m'⟩
        have := Rep.ptr (w := w.alloc (.cells zv.cells t)) (G := G.addB w.heap.size) s.heap.length 0 (by simp [Gh.addB,hnb])
        simpa [Gh.addB,hnb] using this
      · simp at h
    · simp at h
  case box t p =>
    split at h
    · rename_i v hv
      split at h
      · rename_i hc
        obtain ⟨rfl,rfl,rfl,rfl⟩ : V.ptr s.heap.length 0 = x ∧ s.heap ++ [v.cells] = heap ∧ s.own = own ∧ s.next = next := by simpa using h
        obtain ⟨r,w',G',hrun,hr,I',m'⟩ := newVar_good (P := P) I t (ev_rep hs hv) hc
        refine ⟨r,w',G', ?_,hr,I',m'⟩
        simpa [execOp,Instr.box] using hrun
      · simp at h
    · simp at h
  case store t p q =>
    split at h
    · rename_i i b off v hi hp hv
      split at h
      · rename_i cs hcs
        split at h
        · rename_i hc
          obtain ⟨rfl,rfl,rfl,rfl⟩ : V.tup [] = x ∧ s.heap.set b (wrL cs off v.cells) = heap ∧ s.own = own ∧ s.next = next := by simpa using h
          obtain ⟨info,d,h1,h2,rfl⟩ := ti_spec hi
          simp only at hc
          have hrp := ev_rep hs hp
          generalize hav : a.eval p = pv at hrp
          cases hrp with
          | ptr _ _ hbn =>
          obtain ⟨hL,hsz⟩ := (ev_rep hs hv).cellsLR hc.2.2
          obtain ⟨I',m'⟩ := I.store (o := off) (ys := v.cells) (vs := (a.eval q).cells.toList) hcs (by omega) hL.len (fun k y hk => ⟨List.all_eq_true.1 hc.2.2 y (List.mem_of_getElem? hk),hL.rep k y hk⟩)
          obtain ⟨arr,e,ha,has,hr⟩ := I.heap.blk b cs hcs
          have hst := run_storeCells_cells (P := P) (G.mu b) off (a.eval q).cells.toList 0 w (fun j hj => by
            rw [Nat.add_zero,cell_eq ha]
            simp only [Array.length_toList] at hj
            simp [show off + j < arr.size from by omega]) (fun j hj => by simp [World.frozen?,ha]) (fun u hu => by
            obtain ⟨k,hk,rfl⟩ := List.mem_iff_getElem.1 hu
            have hk' : k < v.cells.length := by rw [← hL.len]; exact hk
            have hr := hL.rep k _ (List.getElem?_eq_getElem hk')
            have hv : (a.eval q).cells.toList.getD k undef = (a.eval q).cells.toList[k] := by simp only [List.getD,List.getElem?_eq_getElem hk,Option.getD_some]
            rw [hv] at hr
            exact hr.oneCell (List.all_eq_true.1 hc.2.2 _ (List.getElem_mem hk')))
          rw [Nat.add_zero] at hst
          refine ⟨undef,_,G, .inr ⟨?_,rfl⟩,undef_rep,I',m'⟩
          have hne : ¬ ((a.eval q).cells.size ≠ info.size) := by rw [hsz,hc.1]; simp
          simp only [execOp,Instr.storeAt,hav,Instr.sureAddr,storeVar,Sem.run_bind,Sem.run_pure,Result.andThen_ok,run_size h1]
          rw [Sem.run_ite,if_neg hne]
          simp only [hst,Sem.run_bind,Result.andThen_ok,Sem.run_pure]
        · simp at h
      · simp at h
    · simp at h
  case makeSlice t p q =>
    split at h
    · rename_i i k1 n k2 m hi hn hm
      split at h
      · rename_i e hd
        split at h
        · rename_i ie hie
          split at h
          · rename_i z hz
            split at h
            · rename_i hc
              obtain ⟨hn0,hnm,hmx,hsz,hby,hzl,hone⟩ := hc
              obtain ⟨rfl,rfl,rfl,rfl⟩ : V.slice ie.sz (List.replicate n.toNat (if ie.d.agg then .agg z else z.headD .dead)) (n == m) (some s.next) = x ∧ s.heap = heap ∧ (s.next,n.toNat) :: s.own = own ∧ s.next + 1 = next := by simpa using h
              obtain ⟨zv,hz1,hz2,hz3⟩ := zero_run (P := P) (w := w) (G := G) hie hz
              obtain ⟨info,d,h1,h2,rfl⟩ := ti_spec hi
              have hie' := hie
              obtain ⟨info',d',h1',h2',rfl⟩ := ti_spec hie
              simp only at hsz hby hzl hd hone ⊢
              have hrn := ev_rep hs hn
              have hrm := ev_rep hs hm
              generalize hav : a.eval p = pv at hrn
              generalize haw : a.eval q = qv at hrm
              cases hrn
              cases hrm
              have hmx' : m ≤ 16777216 := hmx
              have hwn : IntKind.i64.wrap n = n := wrap_small (by omega) (by omega)
              have hwm : IntKind.i64.wrap m = m := wrap_small (by omega) (by omega)
              have hb1 : ¬ (m < 0 ∨ (info'.bytes : Int) * m > 2 ^ 48) := by
                rintro (h | h)
                · omega
                · have e1 : (info'.bytes : Int) ≤ 1048576 := Int.ofNat_le.2 (Nat.le_trans hby (by decide))
                  have : (info'.bytes : Int) * m ≤ 1048576 * 16777216 := Int.mul_le_mul e1 hmx' (by omega) (by omega)
                  omega
              have hzs : zv.cells.size = info'.size := by
                have := hz2.len
                rw [Array.length_toList] at this
                omega
              obtain ⟨z0,hz0⟩ : ∃ z0 : Array Value,(if m.toNat * info'.size = 0 then (pure #[] : Sem (Array Value)) else do pure (← zeroValue e).cells).run P w = .ok z0 w ∧ (m.toNat * info'.size ≠ 0 → z0 = zv.cells) := by
                by_cases h0 : m.toNat * info'.size = 0
                · exact ⟨#[],by simp [h0],fun h => absurd h0 h⟩
                · exact ⟨zv.cells,by simp [h0,hz1],fun _ => rfl⟩
              obtain ⟨el,hel0⟩ : ∃ el : V,el = (if (tdOf d').agg then V.agg z else z.headD .dead) := ⟨_,rfl⟩
              rw [← hel0]
              have hec : el.cells = z := by
                rw [hel0]
                split
                · rfl
                · rename_i hag
                  have hz1' : z.length = 1 := by
                    rw [hzl]
                    have hag' : (tdOf d').agg = false := by simpa using hag
                    rw [hag'] at hone
                    simpa using hone
                  match z,hz1' with
                  | [y],_ =>
                    have := (hz3 y (by simp)).1
                    cases y <;> first | rfl | (simp [V.isCell] at this)
              have hecl : el.clean = true := by
                unfold V.clean; rw [hec]
                exact List.all_eq_true.2 fun y hy => (hz3 y hy).2
              obtain ⟨arr,harr⟩ : ∃ arr : Array Value,arr = (Array.range (m.toNat * info'.size)).map (z0[· % z0.size]!) := ⟨_,rfl⟩
              have has : arr.size = m.toNat * info'.size := by rw [harr]; simp
              have hget : ∀ k,k < m.toNat * info'.size → arr[k]? = zv.cells[k % info'.size]? := fun k hk => by
                have hz' := hz0.2 (by omega)
                subst hz'
                rw [harr]
                simp [hk,hzs]
                have : k % info'.size < zv.cells.size := by rw [hzs]; exact Nat.mod_lt _ hsz
                simp [this]
              have hfl : ∀ j,flat (List.replicate j el) = (List.replicate j z).flatten := fun j => by
                induction j with
                | zero => rfl
                | succ j ih => rw [List.replicate_succ,flat_cons,ih,hec]; simp [List.replicate_succ]
              have hLR : LR w G (arr.toList.take (n.toNat * info'.size)) (flat (List.replicate n.toNat el)) := by
                have hle : n.toNat * info'.size ≤ m.toNat * info'.size := Nat.mul_le_mul_right _ (by omega)
                refine ⟨by rw [flat_length (sz := info'.size) (fun x hx => by rw [List.eq_of_mem_replicate hx,hec,hzl])]; rw [List.length_take,Array.length_toList,has,List.length_replicate,Nat.min_eq_left hle],fun k y hk => ?_⟩
                have hkl := (List.getElem?_eq_some_iff.1 hk).1
                rw [flat_length (sz := info'.size) (fun x hx => by rw [List.eq_of_mem_replicate hx,hec,hzl])] at hkl
                simp at hkl
                have hdm : k / info'.size < n.toNat := Nat.div_lt_of_lt_mul (by rw [Nat.mul_comm]; exact hkl)
                have hml : k % info'.size < z.length := by rw [hzl]; exact Nat.mod_lt _ hsz
                have hk2 := flat_get (sz := info'.size) (l := List.replicate n.toNat el) (fun x hx => by rw [List.eq_of_mem_replicate hx,hec,hzl]) (i := k / info'.size) (j := k % info'.size) (x := el) (y := z[k % info'.size])
                  (by simp [hdm]) (by rw [hec]; exact List.getElem?_eq_getElem hml)
                rw [Nat.mul_comm,Nat.div_add_mod] at hk2
                obtain rfl : z[k % info'.size] = y := by rw [hk] at hk2; exact (Option.some.inj hk2).symm
                have hr := hz2.rep (k % info'.size) _ (List.getElem?_eq_getElem hml)
                have : (arr.toList.take (n.toNat * info'.size)).getD k undef = zv.cells.toList.getD (k % info'.size) undef := by
                  rw [List.getD,List.getElem?_take,if_pos hkl,Array.getElem?_toList,hget k (by omega),List.getD,Array.getElem?_toList]
                rw [this]; exact hr
              have hrl : (List.replicate n.toNat el).length = n.toNat := List.length_replicate
              obtain ⟨G',I',m',hr⟩ := freshTok I (W := w) ⟨rfl,rfl,rfl,rfl⟩ hsz (l := List.replicate n.toNat el) (fun x hx => by rw [List.eq_of_mem_replicate hx]; exact ⟨by rw [hec,hzl],hecl⟩) hLR
                (arr := arr) (e := e) (cap := m.toNat) (fun k hk => by
                  rw [hrl] at hk
                  rw [List.getElem?_take,if_pos hk,Array.getElem?_toList]) has (by rw [hrl]; omega)
              rw [hrl] at I' hr
              refine ⟨.slice (some ⟨w.heap.size,0,none⟩) n.toNat m.toNat,_,G', .inl ?_,hr (n == m) (fun he => by simp at he; rw [he]),I',m'⟩
              have hdd : d = .slice e := by cases d <;> simp [tdOf] at hd; rw [hd]
              subst hdd
              have hcond : ¬ ((decide (m < 0) || decide ((info'.bytes : Int) * m > 2 ^ 48)) || decide (n < 0) || decide (n > m)) = true := by
                simp only [Bool.or_eq_true,decide_eq_true_eq]
                omega
              simp only [execOp,hav,haw,Instr.makeSlice,Sem.run_bind,run_und h2,Result.andThen_ok,asInt,asIntOf_run,run_info h1',hwn,hwm,Sem.run_pure]
              simp only [Sem.run_ite]
              rw [if_neg (by simpa using hcond)]
              simp only [Sem.run_bind,Sem.run_pure,Result.andThen_ok,run_askRoom,run_size h1']
              by_cases h0 : m.toNat * info'.size = 0
              · have ha0 : arr = #[] := Array.eq_empty_of_size_eq_zero (by rw [has,h0])
                rw [if_pos h0]
                simp only [Sem.run_bind,Sem.run_pure,Result.andThen_ok]
                rw [h0]
                have hr0 : ∀ f : Nat → Value,(Array.range 0).map f = #[] := fun f => Array.eq_empty_of_size_eq_zero (by simp)
                simp [newRow,ha0,hr0]
              · have hz' := hz0.2 h0
                subst hz'
                rw [if_neg h0]
                simp only [Sem.run_bind,Sem.run_pure,Result.andThen_ok,hz1]
                simp [newRow,harr]
            · simp at h
          · simp at h
        · simp at h
      · simp at h
    · simp at h
end
end Go.PV
