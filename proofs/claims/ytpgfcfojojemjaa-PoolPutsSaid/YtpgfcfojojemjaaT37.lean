/- Pools: Clock, Copy; calls in drawn regions. -/
import Derived.Test.YtpgfcfojojemjaaT36
namespace Go.PV
open Go.Proofs
set_option linter.unusedVariables false
set_option linter.unusedSimpArgs false
set_option maxRecDepth 10000
set_option maxHeartbeats 1000000

theorem WFn_blockL {P : Program} {lim : Lim} {f : FuncId} {b o : Nat} {ys cs : List V} {R : V → List (List V) → Prop} {K : V → St → Prop} {s : St} (c : VC P f (.ptr 0 o :: ys.map V.bare1) [cs] R)
    (hb : s.heap[b]? = some cs) (hy : ∀ y ∈ ys,y.noP1 = true) (hc : ∀ c ∈ cs,c.noP0 = true ∧ c.isCell = true) (hown : ∀ q ∈ cs.flatMap V.tokC,q ∈ s.own) (hlim : lim.lets [b]) (hne : ∃ r h',R r h' ∧ 1 ≤ h'.length)
    (k : ∀ r h' n',R r h' → s.next ≤ n' → ∃ cs',h' = [cs'] ∧ (∀ c ∈ cs',c.noP0 = true) ∧ r.noP = true ∧ K r { s with heap := s.heap.set b cs',own := ownAfter s.own (cs.flatMap V.tokC) (r.toks ++ cs'.flatMap V.tokC),next := n' }) :
    WFn P lim f (.ptr b o :: ys) K s := by
  have hto : ownOf (.ptr 0 o :: ys.map V.bare1) [cs] = cs.flatMap V.tokC := by
    simp only [ownOf,List.flatMap_cons,List.flatMap_nil,List.append_nil]
    have : (ys.map V.bare1).flatMap V.toks = [] := by
      simp only [List.flatMap_eq_nil_iff]
      intro y hy'
      obtain ⟨z,hz,rfl⟩ := List.mem_map.1 hy'
      have h1 := hy z hz
      cases z <;> first | rfl | (simp [V.noP1,V.noP0] at h1; done) | skip
      rename_i cs
      exact cells_bare1 (.agg cs)
    rw [this]; rfl
  refine .ref [b] (.ptr 0 o :: ys.map V.bare1) [cs] R c ⟨⟨by simp [ok1,okC,okP], .inl (by simp [ren1,renC,renP])⟩,fitsL_bare hy⟩ (by simp) ⟨⟨cs,hb,fitsCL_self hc⟩,trivial⟩ (by rw [hto]; exact hown) hlim (fun _ => hne) (fun r h' n' hR hn hle => ?_)
  obtain ⟨cs',rfl,hcs',hr,hk⟩ := k r h' n' hR hn
  have e1 : heapAfter s.heap [b] [cs'] = s.heap.set b cs' := by
    simp only [heapAfter,List.length_singleton,List.take_succ_cons,List.take_zero,List.map_cons,List.map_nil,map_renC hcs',setAll,List.drop_succ_cons,List.drop_zero,List.append_nil]
  rw [ren_noP hr,e1,hto]
  have e2 : ownOf [r] [cs'] = r.toks ++ cs'.flatMap V.tokC := by simp [ownOf]
  rw [e2]; exact hk
section
variable {P : Program} {W : List Nat} {N0 : Nat} {ops : Array Oper} {os : List Oper} {fl : Nat} {fls : List Nat} {K : St → Prop} {s : St} {dst : Option Tmp} {ty : TypeId} {pos : String} {after : Array Edge}
/-- a call on a pool without tokens, in a drawn region: it answers r and leaves the pool -/
theorem D_callB {f : Operand} {args : Array Operand} {ts : Array TypeId} {fid b : Nat} {ys : List V} {r : V} {Ls : List (List OpS)} {cs : List V} (c : VC P fid (.ptr 0 0 :: ys.map V.bare1) [cs] (fun q hh => hh = [cs] ∧ q = r)) (hP : PCt Ls cs) (h0 : cs.flatMap V.tokC = [])
    (hy : ∀ y ∈ ys,y.noP1 = true) (hr : r.noP = true) (ht : r.toks = []) (hlim : (limOf fl W s.heap.length).lets [b])
    (hf : ev s f = some (.func (.func fid) [])) (hx : evL s args.toList = some (.ptr b 0 :: ys)) (hb : s.heap[b]? = some cs)
    (k : ∀ ow' n',(∀ q ∈ s.own,q ∈ ow') → DOpsL P W N0 ops os fls K (St.put ⟨s.slots,s.heap.set b cs,ow',n'⟩ dst r)) :
    DOpsL P W N0 ops (⟨dst, .call ⟨.value f,args,ts⟩,ty,pos,after,none⟩ :: os) (fl :: fls) K s := by
  simp only [DOpsL,DRun,List.headD,List.tail,memOk,true_and]
  unfold WRun
  simp only [opV,loudV]
  refine ⟨fid, [],_,hf,hx, ?_⟩
  rw [List.append_nil]
  refine WFn_blockL c hb hy (fun c hc => by obtain ⟨l,_,hl⟩ := hP.mem hc; exact ⟨hl.facts.1,hl.facts.2.1⟩) (fun q hq => by rw [h0] at hq; cases hq) hlim ⟨r, [cs],⟨rfl,rfl⟩,Nat.le_refl _⟩ ?_
  rintro _ _ n' ⟨rfl,rfl⟩ hnn
  refine ⟨cs,rfl,hP.noP,hr,k _ n' fun q hq => ?_⟩
  rw [ht,List.nil_append,h0]
  exact List.mem_append_right _ (List.mem_filter.2 ⟨hq,by simp⟩)
end
/-- the greatest time -/
def clockL (l : List OpS) : Int := l.foldl (fun n o => if o.time > n then o.time else n) 0
theorem clock_step {l : List OpS} {t : Nat} {o : OpS} (h : l[t]? = some o) : clockL (l.take (t + 1)) = if o.time > clockL (l.take t) then o.time else clockL (l.take t) := by rw [take_at h, clockL, List.foldl_append]; rfl
theorem h__punnet_pool_Pool_Clock (Ls : List (List OpS)) (cs : List V) (h : PCt Ls cs) (h0 : cs.flatMap V.tokC = []) (hd : OkLs Ls) (hB : ∀ l ∈ Ls, l.length ≤ 400) : VC Try.prog 45 [.ptr 0 0] [cs] (fun r hh => hh = [cs] ∧ r = .int .i64 (clockL (sinceL Ls zeroV 400))) := by
 refine VC_enter (nt := 19) (rs := [.tmp 2]) (ow := cs.flatMap V.tokC) (m := 1) Try.func45 rfl (by rfl) rfl rfl (by simp) (by simp [ownOf,V.toks,V.cells,V.tokC]) rfl (fun n => ?_)
 simp only [zipT,Nat.zero_add]
 have hxl := True.intro
 have hi := True.intro
 have hw := True.intro
 refine WC_seqR (fun N1 hN1 hD1 => ?_)
 simp only [sS,↓sT,Nat.reduceLT,Nat.reduceEqDiff,↓sO,↓WOps_g,sG,opV,loudV,cellsOf,strOp,evL,Nat.reduceAdd,Int.reduceBEq,Int.reduceBNe,Nat.le_refl,icell_int,icell_str,icell_bool,dropsW_isC,Bool.and_self,List.all_cons,List.all_nil,hxl,hi,hw,cat_at,cat_set,wr15,op_isC,op_full,op_len,op_cells,opCells,load15,load_int,List.drop_zero,ti3,ti2,ti49]
 refine hN1 _ ?_; try clear hN1 hD1 N1
 refine WC_seqR (fun N2 hN2 hD2 => ?_)
 simp only [sS,↓sT,Nat.reduceLT,Nat.reduceEqDiff,↓sO,↓WOps_g,sG,opV,loudV,cellsOf,strOp,evL,Nat.reduceAdd,Int.reduceBEq,Int.reduceBNe,Nat.le_refl,icell_int,icell_str,icell_bool,dropsW_isC,Bool.and_self,List.all_cons,List.all_nil,hxl,hi,hw,cat_at,cat_set,wr15,op_isC,op_full,op_len,op_cells,opCells,load15,load_int,List.drop_zero,ti3,ti2,ti49]
 refine hN2 _ ?_; try clear hN2 hD2 N2
 refine WC_seqN (fun N3 hN3 hD3 => ?_)
 refine WC_seqR (fun N4 hN4 hD4 => ?_)
 simp only [sS,↓sT,Nat.reduceLT,Nat.reduceEqDiff,↓sO,↓WOps_g,sG,opV,loudV,cellsOf,strOp,evL,Nat.reduceAdd,Int.reduceBEq,Int.reduceBNe,ti52,Nat.le_refl,icell_int,icell_str,icell_bool,dropsW_isC,Bool.and_self,List.all_cons,List.all_nil,hxl,hi,hw,cat_at,cat_set,wr15,op_isC,op_full,op_len,op_cells,opCells,load15,load_int,List.drop_zero,ti3,ti2,ti49]
 obtain ⟨X,hXe⟩ : ∃ X,sinceL Ls zeroV 400 = X := ⟨_,rfl⟩
 have hX4 : X.length ≤ 400 := by rw [← hXe,sinceL,List.length_take]; exact Nat.min_le_left _ _
 have hXS := opsV_PS X
 have hxl := hXS.len
 refine WOps_opsB (b := 0) (cs := cs) h h0 hd hB (by simp only [ev_func]) (by first | (simp only [evL,sS,↓sT,Nat.reduceLT,Nat.reduceEqDiff]; done) | (simp only [evL,sS,↓sT,Nat.reduceLT,Nat.reduceEqDiff]; rfl)) rfl (fun ow1 n1 hsub => ?_)
 rw [hXe]
 simp only [sS,↓sT,Nat.reduceLT,Nat.reduceEqDiff,↓sO,↓WOps_g,sG,opV,loudV,cellsOf,strOp,evL,Nat.reduceAdd,Int.reduceBEq,Int.reduceBNe,ti52,Nat.le_refl,icell_int,icell_str,icell_bool,dropsW_isC,Bool.and_self,List.all_cons,List.all_nil,hxl,hi,hw,cat_at,cat_set,wr15,op_isC,op_full,op_len,op_cells,opCells,load15,load_int,List.drop_zero,ti3,ti2,ti49]
 refine hN4 _ ?_; try clear hN4 hD4 N4
 refine WC_block ?_
 refine WC_loopG (σ := Nat) (fun t s => ∃ ps hs ow nx,s = ⟨mkS 19 ps,cs :: hs,ow,nx⟩ ∧ Has ps [(3, .int .i64 (clockL (X.take t))),(7,opsV X),(8, .int .i64 X.length),(9, .int .i64 t)] ∧ t ≤ X.length) (fun t => X.length - t) 0 ?_ (fun t s hI => ?_)
 · exact ⟨_, [],_,_,rfl,⟨rfl,rfl,rfl,rfl,trivial⟩,Nat.zero_le _⟩
 obtain ⟨ps,hs,ow,nx,rfl,hps,ht⟩ := hI
 refine WC_has hps ?_; clear hps ps
 refine WC_seqR (fun N5 hN5 hD5 => ?_)
 simp only [sS,↓sT,Nat.reduceLT,Nat.reduceEqDiff,↓sO,↓WOps_g,sG,opV,loudV,cellsOf,strOp,evL,Nat.reduceAdd,Int.reduceBEq,Int.reduceBNe,Nat.le_refl,icell_int,icell_str,icell_bool,dropsW_isC,Bool.and_self,List.all_cons,List.all_nil,hxl,hi,hw,cat_at,cat_set,wr15,op_isC,op_full,op_len,op_cells,opCells,load15,load_int,List.drop_zero,ti3,ti2,ti49]
 refine hN5 _ ?_; try clear hN5 hD5 N5
 refine WC_seqN (fun N6 hN6 hD6 => ?_)
 refine WC_condE ?_
 simp only [sS,↓sT,Nat.reduceLT,Nat.reduceEqDiff,↓stepC_bool]
 refine ⟨fun hb7 => ?_,fun hb7 => ?_⟩
 ·have ht2 : t < X.length := by have := of_decide_eq_true hb7; omega
  obtain ⟨o,ho⟩ : ∃ o,X[t]? = some o := ⟨_,List.getElem?_eq_getElem ht2⟩
  have hi := hXS.ia ho
  have hw : IntKind.i64.wrap ((t : Int) + 1) = (t : Int) + 1 := wrapI (by omega) (by omega)
  refine WC_skip ?_
  refine hN6 _ ?_; try clear hN6 hD6 N6
  refine WC_seqN (fun N8 hN8 hD8 => ?_)
  refine WC_block ?_
  refine WC_seqR (fun N9 hN9 hD9 => ?_)
  simp only [sS,↓sT,Nat.reduceLT,Nat.reduceEqDiff,↓sO,↓WOps_g,sG,opV,loudV,cellsOf,strOp,evL,Nat.reduceAdd,Int.reduceBEq,Int.reduceBNe,ti52,ti49,Nat.le_refl,icell_int,icell_str,icell_bool,dropsW_isC,Bool.and_self,List.all_cons,List.all_nil,hxl,hi,hw,cat_at,cat_set,wr15,op_isC,op_full,op_len,op_cells,opCells,load15,load_int,List.drop_zero,ti3,ti2,hb7]
  refine hN9 _ ?_; try clear hN9 hD9 N9
  refine WC_regN (fun N10 hN10 => ?_)
  simp only [sS,↓sT,Nat.reduceLT,Nat.reduceEqDiff,↓sO,↓WOps_g,sG,opV,loudV,cellsOf,strOp,evL,Nat.reduceAdd,Int.reduceBEq,Int.reduceBNe,fS49,ti2,mmV,mmG,Nat.le_refl,icell_int,icell_str,icell_bool,dropsW_isC,Bool.and_self,List.all_cons,List.all_nil,hxl,hi,hw,cat_at,cat_set,wr15,op_isC,op_full,op_len,op_cells,opCells,load15,load_int,List.drop_zero,ti3,ti49,hb7]
  refine hN10 _ ?_; try clear hN10 N10
  refine hN8 _ ?_; try clear hN8 hD8 N8
  refine WC_regN (fun N11 hN11 => ?_)
  simp only [sS,↓sT,Nat.reduceLT,Nat.reduceEqDiff,↓sO,↓WOps_g,sG,opV,loudV,cellsOf,strOp,evL,Nat.reduceAdd,Int.reduceBEq,Int.reduceBNe,Nat.le_refl,icell_int,icell_str,icell_bool,dropsW_isC,Bool.and_self,List.all_cons,List.all_nil,hxl,hi,hw,cat_at,cat_set,wr15,op_isC,op_full,op_len,op_cells,opCells,load15,load_int,List.drop_zero,ti3,ti2,ti49,hb7]
  refine hN11 _ ?_; try clear hN11 N11
  refine ⟨t + 1,⟨_,_,_,_,rfl,⟨?_,rfl,rfl,rfl,trivial⟩,ht2⟩,by omega⟩
  rw [clock_step ho]
  rfl
 ·refine WC_exit ?_
  refine hN3 _ ?_; try clear hN3 hD3 N3
  refine WC_seqR (fun N12 hN12 hD12 => ?_)
  simp only [sS,↓sT,Nat.reduceLT,Nat.reduceEqDiff,↓sO,↓WOps_g,sG,opV,loudV,cellsOf,strOp,evL,Nat.reduceAdd,Int.reduceBEq,Int.reduceBNe,Nat.le_refl,icell_int,icell_str,icell_bool,dropsW_isC,Bool.and_self,List.all_cons,List.all_nil,hxl,hi,hw,cat_at,cat_set,wr15,op_isC,op_full,op_len,op_cells,opCells,load15,load_int,List.drop_zero,ti3,ti2,ti49,hb7]
  refine hN12 _ ?_; try clear hN12 hD12 N12
  refine WC_ret ?_; (try simp only [Exit.after,Exit.out]); refine Kend_ret1 (by first | (simp only [resOf,resL,resV,mkS_get,slots_get,cellsOf,sS,↓sT,Nat.reduceLT,Nat.reduceEqDiff]; done) | (simp only [resOf,resL,resV,mkS_get,slots_get,cellsOf,sS,↓sT,Nat.reduceLT,Nat.reduceEqDiff]; rfl)) rfl rfl h.noP ?_
  clear hN6 hD6 N6
  have ht2 : t = X.length := by have := of_decide_eq_false hb7; omega
  refine ⟨?_, ?_⟩
  · rw [h.keep (fun q hq => by rw [h0] at hq; cases hq)]
  · rw [hXe,ht2,List.take_length]; rfl
/-- a call's end that hands its block and a new one back -/
theorem Kend_ret2 {rs : List ResultVar} {R : V → List (List V) → Prop} {x : V} {s : St} {cs ds : List V} {rest : List (List V)} (hx : resOf Try.prog s rs = some x) (hh : s.heap = cs :: ds :: rest) (hok : okV 2 x = true) (hc : ∀ c ∈ cs, c.noP0 = true) (hd : ∀ c ∈ ds, c.noP0 = true)
    (hR : R (x.keep s.own) [cs.map (V.keepC s.own),ds.map (V.keepC s.own)]) : Kend Try.prog rs 1 R .ret s :=
  ⟨.inr rfl,x,2,hx,by decide,by rw [hh]; simp, .inr (by
    rw [hh]; simp only [hok,Bool.true_and,List.take_succ_cons,List.take_zero,List.all_cons,List.all_nil,Bool.and_true,Bool.and_eq_true,List.all_eq_true]
    exact ⟨fun c hcc => (renC_noP (ρ := []) (hc c hcc)).2 2,fun c hcc => (renC_noP (ρ := []) (hd c hcc)).2 2⟩),by rw [hh]; simpa using hR⟩
theorem since_all {Ls : List (List OpS)} {m : List OpS} (h : Rel Ls m) (hm : m.length ≤ 60) : sinceL Ls zeroV 400 = partL Ls zeroV 6 := by
  rw [sinceL]; exact List.take_of_length_le (by have := part_le h zeroV; show _ ≤ 400; omega)
theorem have_empty : haveL emptyL = zeroV := rfl
theorem h__punnet_pool_Pool_Copy (Ls : List (List OpS)) (m : List OpS) (hR : Rel Ls m) (hm : m.length ≤ 60) (hmd : ∀ o ∈ m, o.dropsL.length ≤ 200) (cs : List V) (h : PCt Ls cs) (h0 : cs.flatMap V.tokC = []) (hd : OkLs Ls) (hB : ∀ l ∈ Ls, l.length ≤ 400) : VC Try.prog 42 [.ptr 0 0] [cs] (fun r hh => r = .ptr 1 0 ∧ ∃ ds, hh = [cs, ds] ∧ PCt Ls ds ∧ ds.flatMap V.tokC = []) := by
 refine VC_enter (nt := 21) (rs := [.tmp 2]) (ow := cs.flatMap V.tokC) (m := 1) Try.func42 rfl (by rfl) rfl rfl (by simp) (by simp [ownOf,V.toks,V.cells,V.tokC]) rfl (fun n => ?_)
 simp only [zipT,Nat.zero_add]
 have hxl := True.intro
 have hi := True.intro
 have hw := True.intro
 refine WC_seqR (fun N1 hN1 hD1 => ?_)
 simp only [sS,↓sT,Nat.reduceLT,Nat.reduceEqDiff,↓sO,↓WOps_g,sG,opV,loudV,cellsOf,strOp,evL,Nat.reduceAdd,Int.reduceBEq,Int.reduceBNe,Nat.le_refl,icell_int,icell_str,icell_bool,dropsW_isC,Bool.and_self,List.all_cons,List.all_nil,hxl,hi,hw,cat_at,cat_set,wr15,op_isC,op_full,op_len,op_cells,opCells,load15,load_int,List.drop_zero,ti3,ti2,ti49]
 refine hN1 _ ?_; try clear hN1 hD1 N1
 refine WC_seqN (fun N2 hN2 hD2 => ?_)
 refine WC_seqR (fun N3 hN3 hD3 => ?_)
 simp only [sS,↓sT,Nat.reduceLT,Nat.reduceEqDiff,↓sO,↓WOps_g,sG,opV,loudV,cellsOf,strOp,evL,Nat.reduceAdd,Int.reduceBEq,Int.reduceBNe,Nat.le_refl,icell_int,icell_str,icell_bool,dropsW_isC,Bool.and_self,List.all_cons,List.all_nil,hxl,hi,hw,cat_at,cat_set,wr15,op_isC,op_full,op_len,op_cells,opCells,load15,load_int,List.drop_zero,ti3,ti2,ti49]
 refine hN3 _ ?_; try clear hN3 hD3 N3
 refine WC_condE ?_
 simp only [sS,↓sT,Nat.reduceLT,Nat.reduceEqDiff,↓stepC_bool]
 refine ⟨fun hb4 => ?_,fun hb4 => ?_⟩
 ·exact absurd hb4 (by simp)
 ·refine WC_skip ?_
  refine hN2 _ ?_; try clear hN2 hD2 N2
  refine WC_seqR (fun N5 hN5 hD5 => ?_)
  refine WOps_callN c_new (by simp only [ev_func]) (by first | (simp only [evL,sS,↓sT,Nat.reduceLT,Nat.reduceEqDiff]; done) | (simp only [evL,sS,↓sT,Nat.reduceLT,Nat.reduceEqDiff]; rfl)) (fun c hc => by rw [newC_nil hc]; rfl) new_toks ?_
  intro n' hnn
  simp only [sS,↓sT,Nat.reduceLT,Nat.reduceEqDiff,↓sO,↓WOps_g,sG,opV,loudV,cellsOf,strOp,evL,Nat.reduceAdd,Int.reduceBEq,Int.reduceBNe,Nat.le_refl,icell_int,icell_str,icell_bool,dropsW_isC,Bool.and_self,List.all_cons,List.all_nil,hxl,hi,hw,cat_at,cat_set,wr15,op_isC,op_full,op_len,op_cells,opCells,load15,load_int,List.drop_zero,ti3,ti2,ti49,hb4]
  refine hN5 _ ?_; try clear hN5 hD5 N5
  refine WC_seqN (fun N6 hN6 hD6 => ?_)
  refine WC_seqR (fun N7 hN7 hD7 => ?_)
  simp only [sS,↓sT,Nat.reduceLT,Nat.reduceEqDiff,↓sO,↓WOps_g,sG,opV,loudV,cellsOf,strOp,evL,Nat.reduceAdd,Int.reduceBEq,Int.reduceBNe,ti52,Nat.le_refl,icell_int,icell_str,icell_bool,dropsW_isC,Bool.and_self,List.all_cons,List.all_nil,hxl,hi,hw,cat_at,cat_set,wr15,op_isC,op_full,op_len,op_cells,opCells,load15,load_int,List.drop_zero,ti3,ti2,ti49,hb4]
  obtain ⟨X,hXe⟩ : ∃ X,sinceL Ls zeroV 400 = X := ⟨_,rfl⟩
  have hXp : X = partL Ls (haveL emptyL) 6 := by rw [← hXe,since_all hR hm,have_empty]
  have hX4 : X.length ≤ 60 := by rw [hXp]; exact Nat.le_trans (part_le hR _) hm
  have hXS := opsV_PS X
  have hxl := hXS.len
  refine WOps_opsB (b := 0) (cs := cs) h h0 hd hB (by simp only [ev_func]) (by first | (simp only [evL,sS,↓sT,Nat.reduceLT,Nat.reduceEqDiff]; done) | (simp only [evL,sS,↓sT,Nat.reduceLT,Nat.reduceEqDiff]; rfl)) rfl (fun ow1 n1 hsub => ?_)
  rw [hXe]
  simp only [sS,↓sT,Nat.reduceLT,Nat.reduceEqDiff,↓sO,↓WOps_g,sG,opV,loudV,cellsOf,strOp,evL,Nat.reduceAdd,Int.reduceBEq,Int.reduceBNe,ti52,Nat.le_refl,icell_int,icell_str,icell_bool,dropsW_isC,Bool.and_self,List.all_cons,List.all_nil,hxl,hi,hw,cat_at,cat_set,wr15,op_isC,op_full,op_len,op_cells,opCells,load15,load_int,List.drop_zero,ti3,ti2,ti49,hb4]
  refine hN7 _ ?_; try clear hN7 hD7 N7
  refine WC_block ?_
  refine WC_loopG (σ := Nat) (fun t s => ∃ ps Q es hs ow nx,s = ⟨mkS 21 ps,cs :: es :: hs,ow,nx⟩ ∧ Has ps [(3, .ptr 1 0),(10,opsV X),(11, .int .i64 X.length),(12, .int .i64 t)] ∧ t ≤ X.length ∧ Sub Ls Q ∧ Pool Q es ow 60 ∧ partL Ls (haveL Q) 6 = X.drop t) (fun t => X.length - t) 0 ?_ (fun t s hI => ?_)
  · exact ⟨_,emptyL,newC, [],_,_,rfl,⟨rfl,rfl,rfl,rfl,trivial⟩,Nat.zero_le _,sub_empty Ls,(Pool.new _).sub hR (sub_empty Ls) hm,by rw [← hXp]; rfl⟩
  obtain ⟨ps,Q,es,hs,ow,nx,rfl,hps,ht,hS,hP,hX⟩ := hI
  refine WC_has hps ?_; clear hps ps
  refine WC_seqR (fun N8 hN8 hD8 => ?_)
  simp only [sS,↓sT,Nat.reduceLT,Nat.reduceEqDiff,↓sO,↓WOps_g,sG,opV,loudV,cellsOf,strOp,evL,Nat.reduceAdd,Int.reduceBEq,Int.reduceBNe,Nat.le_refl,icell_int,icell_str,icell_bool,dropsW_isC,Bool.and_self,List.all_cons,List.all_nil,hxl,hi,hw,cat_at,cat_set,wr15,op_isC,op_full,op_len,op_cells,opCells,load15,load_int,List.drop_zero,ti3,ti2,ti49,hb4]
  refine hN8 _ ?_; try clear hN8 hD8 N8
  refine WC_seqN (fun N9 hN9 hD9 => ?_)
  refine WC_condE ?_
  simp only [sS,↓sT,Nat.reduceLT,Nat.reduceEqDiff,↓stepC_bool,hb4,Int.reduceBEq,Int.reduceBNe,beq_self_eq_true,bne_self_eq_false]
  refine ⟨fun hb10 => ?_,fun hb10 => ?_⟩
  ·have ht2 : t < X.length := by have := of_decide_eq_true hb10; omega
   obtain ⟨o,ho⟩ : ∃ o,X[t]? = some o := ⟨_,List.getElem?_eq_getElem ht2⟩
   have hi := hXS.ia ho
   have hw : IntKind.i64.wrap ((t : Int) + 1) = (t : Int) + 1 := wrapI (by omega) (by omega)
   have hhd : partL Ls (haveL Q) 6 = o :: X.drop (t + 1) := by
     rw [hX]
     obtain ⟨h1,h2⟩ := List.getElem?_eq_some_iff.1 ho
     rw [List.drop_eq_getElem_cons h1,h2]
   obtain ⟨_,hof,hS',hX'⟩ := head_put hR hS (by have := hP.t; omega) hhd
   refine WC_skip ?_
   refine hN9 _ ?_; try clear hN9 hD9 N9
   refine WC_seqN (fun N11 hN11 hD11 => ?_)
   refine WC_block ?_
   refine WC_seqR (fun N12 hN12 hD12 => ?_)
   simp only [sS,↓sT,Nat.reduceLT,Nat.reduceEqDiff,↓sO,↓WOps_g,sG,opV,loudV,cellsOf,strOp,evL,Nat.reduceAdd,Int.reduceBEq,Int.reduceBNe,ti52,ti49,Nat.le_refl,icell_int,icell_str,icell_bool,dropsW_isC,Bool.and_self,List.all_cons,List.all_nil,hxl,hi,hw,cat_at,cat_set,wr15,op_isC,op_full,op_len,op_cells,opCells,load15,load_int,List.drop_zero,ti3,ti2,hb4,hb10]
   refine hN12 _ ?_; try clear hN12 hD12 N12
   refine WC_regN (fun N13 hN13 => ?_)
   simp only [sS,↓sT,Nat.reduceLT,Nat.reduceEqDiff,↓sO,↓WOps_g,sG,opV,loudV,cellsOf,strOp,evL,Nat.reduceAdd,Int.reduceBEq,Int.reduceBNe,ti49,Nat.le_refl,icell_int,icell_str,icell_bool,dropsW_isC,Bool.and_self,List.all_cons,List.all_nil,hxl,hi,hw,cat_at,cat_set,wr15,op_isC,op_full,op_len,op_cells,opCells,load15,load_int,List.drop_zero,ti3,ti2,hb4,hb10]
   refine WOps_put (b := 1) (o := o) hP (by omega) (of_drops hmd hof) (by simp only [ev_func]) (by first | (simp only [evL,sS,↓sT,Nat.reduceLT,Nat.reduceEqDiff]; done) | (simp only [evL,sS,↓sT,Nat.reduceLT,Nat.reduceEqDiff]; rfl)) rfl (fun es' ow' n' hP' => ?_)
   generalize (putS Q o).1 = c1
   replace hP' := hP'.sub hR hS' hm
   simp only [sS,↓sT,Nat.reduceLT,Nat.reduceEqDiff,↓sO,↓WOps_g,sG,opV,loudV,cellsOf,strOp,evL,Nat.reduceAdd,Int.reduceBEq,Int.reduceBNe,ti49,Nat.le_refl,icell_int,icell_str,icell_bool,dropsW_isC,Bool.and_self,List.all_cons,List.all_nil,hxl,hi,hw,cat_at,cat_set,wr15,op_isC,op_full,op_len,op_cells,opCells,load15,load_int,List.drop_zero,ti3,ti2,hb4,hb10]
   refine hN13 _ ?_; try clear hN13 N13
   refine hN11 _ ?_; try clear hN11 hD11 N11
   refine WC_regN (fun N14 hN14 => ?_)
   simp only [sS,↓sT,Nat.reduceLT,Nat.reduceEqDiff,↓sO,↓WOps_g,sG,opV,loudV,cellsOf,strOp,evL,Nat.reduceAdd,Int.reduceBEq,Int.reduceBNe,Nat.le_refl,icell_int,icell_str,icell_bool,dropsW_isC,Bool.and_self,List.all_cons,List.all_nil,hxl,hi,hw,cat_at,cat_set,wr15,op_isC,op_full,op_len,op_cells,opCells,load15,load_int,List.drop_zero,ti3,ti2,ti49,hb4,hb10]
   refine hN14 _ ?_; try clear hN14 N14
   exact ⟨t + 1,⟨_,putL Q o,es',_,ow',_,rfl,⟨rfl,rfl,rfl,rfl,trivial⟩,ht2,hS',hP',hX'⟩,by omega⟩
  ·have ht2 : t = X.length := by have := of_decide_eq_false hb10; omega
   rw [ht2,List.drop_length] at hX
   have hQL := all_there hR hS hX
   subst hQL
   refine WC_bare (b := 1) (cs := es) rfl ?_
   have hQb := hP.p.bareW
   have hQ0 := bareW_toks hP.p
   clear hP hX
   generalize es.map V.bareC = fs at hQb hQ0
   refine WC_exit ?_
   refine hN6 _ ?_; try clear hN6 hD6 N6
   refine WC_seqR (fun N15 hN15 hD15 => ?_)
   simp only [sS,↓sT,Nat.reduceLT,Nat.reduceEqDiff,↓sO,↓WOps_g,sG,opV,loudV,cellsOf,strOp,evL,Nat.reduceAdd,Int.reduceBEq,Int.reduceBNe,Nat.le_refl,icell_int,icell_str,icell_bool,dropsW_isC,Bool.and_self,List.all_cons,List.all_nil,hxl,hi,hw,cat_at,cat_set,wr15,op_isC,op_full,op_len,op_cells,opCells,load15,load_int,List.drop_zero,ti3,ti2,ti49,hb4,hb10]
   refine hN15 _ ?_; try clear hN15 hD15 N15
   refine WC_sub (ow' := []) (fun q hq => by cases hq) ?_
   refine WC_ret ?_; (try simp only [Exit.after,Exit.out]); refine Kend_ret2 (by first | (simp only [resOf,resL,resV,mkS_get,slots_get,cellsOf,sS,↓sT,Nat.reduceLT,Nat.reduceEqDiff]; done) | (simp only [resOf,resL,resV,mkS_get,slots_get,cellsOf,sS,↓sT,Nat.reduceLT,Nat.reduceEqDiff]; rfl)) rfl rfl h.noP hQb.noP ?_
   clear hN9 hD9 N9
   refine ⟨rfl,fs, ?_,hQb,hQ0⟩
   rw [h.keep (fun q hq => by rw [h0] at hq; cases hq),hQb.keep (fun q hq => by rw [hQ0] at hq; cases hq)]
end Go.PV
/- punnetref26: Since, Have, Clock. -/
namespace Go.PV
open Go.Proofs
set_option linter.unusedVariables false
set_option linter.unusedSimpArgs false
set_option maxRecDepth 10000
set_option maxHeartbeats 1000000

theorem c_punnet_punnetref26_Clock (l : List OpS) (x : V) (hx : PS l x) (hl : l.length ≤ 400) : VC Try.prog 46 [x] [] (fun r _ => r = .int .i64 (clockL l)) := by
 refine VC_enter (nt := 24) (rs := [.tmp 2]) (ow := []) (m := 0) Try.func46 rfl (by rfl) rfl rfl (by simp) (by simp only [ownOf,List.flatMap_cons,List.flatMap_nil,hx.toks,List.append_nil]) rfl (fun n => ?_)
 simp only [zipT,Nat.zero_add]
 have hi := True.intro
 have hw := True.intro
 refine WC_seqR (fun N1 hN1 hD1 => ?_)
 simp only [sS,↓sT,Nat.reduceLT,Nat.reduceEqDiff,↓sO,↓WOps_g,sG,opV,loudV,cellsOf,strOp,evL,Nat.reduceAdd,Int.reduceBEq,Int.reduceBNe,hx.len,hi,hw,gt_iff_lt,opCells,load_int,List.drop_zero,ti3,ti2,ti49]
 refine hN1 _ ?_; try clear hN1 hD1 N1
 refine WC_seqR (fun N2 hN2 hD2 => ?_)
 simp only [sS,↓sT,Nat.reduceLT,Nat.reduceEqDiff,↓sO,↓WOps_g,sG,opV,loudV,cellsOf,strOp,evL,Nat.reduceAdd,Int.reduceBEq,Int.reduceBNe,hx.len,hi,hw,gt_iff_lt,opCells,load_int,List.drop_zero,ti3,ti2,ti49]
 refine hN2 _ ?_; try clear hN2 hD2 N2
 refine WC_seqN (fun N3 hN3 hD3 => ?_)
 refine WC_seqR (fun N4 hN4 hD4 => ?_)
 simp only [sS,↓sT,Nat.reduceLT,Nat.reduceEqDiff,↓sO,↓WOps_g,sG,opV,loudV,cellsOf,strOp,evL,Nat.reduceAdd,Int.reduceBEq,Int.reduceBNe,hx.len,hi,hw,gt_iff_lt,opCells,load_int,List.drop_zero,ti3,ti2,ti49]
 refine hN4 _ ?_; try clear hN4 hD4 N4
 refine WC_block ?_
 refine WC_loopG (σ := Nat) (fun t s => ∃ ps,s = ⟨mkS 24 ps, [], [],n⟩ ∧ Has ps [(0,x),(3, .int .i64 (clockL (l.take t))),(4, .int .i64 t)] ∧ t ≤ l.length) (fun t => l.length - t) 0 ?_ (fun t s hI => ?_)
 · exact ⟨_,rfl,⟨rfl,rfl,rfl,trivial⟩,Nat.zero_le _⟩
 obtain ⟨ps,rfl,hps,ht⟩ := hI
 refine WC_has hps ?_; clear hps ps
 refine WC_seqN (fun N5 hN5 hD5 => ?_)
 refine WC_seqR (fun N6 hN6 hD6 => ?_)
 simp only [sS,↓sT,Nat.reduceLT,Nat.reduceEqDiff,↓sO,↓WOps_g,sG,opV,loudV,cellsOf,strOp,evL,Nat.reduceAdd,Int.reduceBEq,Int.reduceBNe,ti52,hx.len,hi,hw,gt_iff_lt,opCells,load_int,List.drop_zero,ti3,ti2,ti49]
 refine hN6 _ ?_; try clear hN6 hD6 N6
 refine WC_condE ?_
 simp only [sS,↓sT,Nat.reduceLT,Nat.reduceEqDiff,↓stepC_bool]
 refine ⟨fun hb7 => ?_,fun hb7 => ?_⟩
 ·have ht2 : t < l.length := by have := of_decide_eq_true hb7; omega
  obtain ⟨o,ho⟩ : ∃ o,l[t]? = some o := ⟨_,List.getElem?_eq_getElem ht2⟩
  have hi := hx.ia ho
  have hw : IntKind.i64.wrap ((t : Int) + 1) = (t : Int) + 1 := wrapI (by omega) (by omega)
  refine WC_skip ?_
  refine hN5 _ ?_; try clear hN5 hD5 N5
  refine WC_seqN (fun N8 hN8 hD8 => ?_)
  refine WC_block ?_
  refine WC_seqR (fun N9 hN9 hD9 => ?_)
  simp only [sS,↓sT,Nat.reduceLT,Nat.reduceEqDiff,↓sO,↓WOps_g,sG,opV,loudV,cellsOf,strOp,evL,Nat.reduceAdd,Int.reduceBEq,Int.reduceBNe,ti52,fS49,ti2,hx.len,hi,hw,gt_iff_lt,opCells,load_int,List.drop_zero,ti3,ti49,hb7]
  refine hN9 _ ?_; try clear hN9 hD9 N9
  refine WC_condE ?_
  simp only [sS,↓sT,Nat.reduceLT,Nat.reduceEqDiff,↓stepC_bool,hb7,Int.reduceBEq,Int.reduceBNe,beq_self_eq_true,bne_self_eq_false]
  refine ⟨fun hb10 => ?_,fun hb10 => ?_⟩
  ·refine WC_regN (fun N11 hN11 => ?_)
   simp only [sS,↓sT,Nat.reduceLT,Nat.reduceEqDiff,↓sO,↓WOps_g,sG,opV,loudV,cellsOf,strOp,evL,Nat.reduceAdd,Int.reduceBEq,Int.reduceBNe,ti52,fS49,ti2,hx.len,hi,hw,gt_iff_lt,opCells,load_int,List.drop_zero,ti3,ti49,hb7,hb10]
   refine hN11 _ ?_; try clear hN11 N11
   refine hN8 _ ?_; try clear hN8 hD8 N8
   refine WC_regN (fun N12 hN12 => ?_)
   simp only [sS,↓sT,Nat.reduceLT,Nat.reduceEqDiff,↓sO,↓WOps_g,sG,opV,loudV,cellsOf,strOp,evL,Nat.reduceAdd,Int.reduceBEq,Int.reduceBNe,hx.len,hi,hw,gt_iff_lt,opCells,load_int,List.drop_zero,ti3,ti2,ti49,hb7,hb10]
   refine hN12 _ ?_; try clear hN12 N12
   refine ⟨t + 1,⟨_,rfl,⟨rfl, ?_,rfl,trivial⟩,ht2⟩,by omega⟩
   rw [clock_step ho]
   first
   | (rw [if_pos (of_decide_eq_true hb10)]; rfl)
   | (rw [if_neg (of_decide_eq_false hb10)]; rfl)
  ·refine WC_skip ?_
   refine hN8 _ ?_; try clear hN8 hD8 N8
   refine WC_regN (fun N13 hN13 => ?_)
   simp only [sS,↓sT,Nat.reduceLT,Nat.reduceEqDiff,↓sO,↓WOps_g,sG,opV,loudV,cellsOf,strOp,evL,Nat.reduceAdd,Int.reduceBEq,Int.reduceBNe,hx.len,hi,hw,gt_iff_lt,opCells,load_int,List.drop_zero,ti3,ti2,ti49,hb7,hb10]
   refine hN13 _ ?_; try clear hN13 N13
   refine ⟨t + 1,⟨_,rfl,⟨rfl, ?_,rfl,trivial⟩,ht2⟩,by omega⟩
   rw [clock_step ho]
   first
   | (rw [if_pos (of_decide_eq_true hb10)]; rfl)
   | (rw [if_neg (of_decide_eq_false hb10)]; rfl)
 ·refine WC_exit ?_
  refine hN3 _ ?_; try clear hN3 hD3 N3
  refine WC_seqR (fun N14 hN14 hD14 => ?_)
  simp only [sS,↓sT,Nat.reduceLT,Nat.reduceEqDiff,↓sO,↓WOps_g,sG,opV,loudV,cellsOf,strOp,evL,Nat.reduceAdd,Int.reduceBEq,Int.reduceBNe,hx.len,hi,hw,gt_iff_lt,opCells,load_int,List.drop_zero,ti3,ti2,ti49,hb7]
  refine hN14 _ ?_; try clear hN14 hD14 N14
  refine WC_ret ?_; (try simp only [Exit.after,Exit.out]); refine Kend_ret (by simp only [resOf,resL,resV,mkS_get,slots_get,cellsOf,op_load,ti3,ti52,ti49,sS,↓sT,Nat.reduceLT,Nat.reduceEqDiff]; rfl) (by first | rfl | (simp only [op_load,ti3,ti52,ti49]; done) | (simp only [op_load,ti3,ti52,ti49,okV,ok1,okC,okP,List.all_cons,List.all_nil,Bool.and_true]; done)) ?_
  clear hN5 hD5 N5
  have ht2 : t = l.length := by have := of_decide_eq_false hb7; omega
  rw [keep_int,ht2,List.take_length]
/-- how many of each -/
def cntL (m : List OpS) : List Int := [((grp m 1).length : Int), (grp m 2).length, (grp m 3).length, (grp m 4).length, (grp m 5).length, (grp m 6).length]
theorem cntL_step {m : List OpS} {o : OpS} (h1 : 1 ≤ o.idR) (h6 : o.idR ≤ 6) : cntL (m ++ [o]) = (cntL m).set (o.idR - 1).toNat ((cntL m).getD (o.idR - 1).toNat 0 + 1) := by
  rcases (show o.idR = 1 ∨ o.idR = 2 ∨ o.idR = 3 ∨ o.idR = 4 ∨ o.idR = 5 ∨ o.idR = 6 by omega) with e | e | e | e | e | e <;> simp [cntL,grp_snoc,e]
theorem cntL_le (m : List OpS) (k : Nat) : 0 ≤ (cntL m).getD k 0 ∧ (cntL m).getD k 0 ≤ (m.length : Int) := by
  have h : ∀ r,((grp m r).length : Int) ≤ (m.length : Int) := fun r => by
    have : (grp m r).length ≤ m.length := List.length_filter_le _ _
    omega
  unfold cntL
  match k with
  | 0 => exact ⟨Int.natCast_nonneg _,h _⟩
  | 1 => exact ⟨Int.natCast_nonneg _,h _⟩
  | 2 => exact ⟨Int.natCast_nonneg _,h _⟩
  | 3 => exact ⟨Int.natCast_nonneg _,h _⟩
  | 4 => exact ⟨Int.natCast_nonneg _,h _⟩
  | 5 => exact ⟨Int.natCast_nonneg _,h _⟩
  | k + 6 => exact ⟨Int.le_refl _,Int.natCast_nonneg _⟩
theorem c_punnet_punnetref26_Have (l : List OpS) (x : V) (hx : PS l x) (hl : l.length ≤ 400) (hr : ∀ o ∈ l, 1 ≤ o.idR ∧ o.idR ≤ 6) : VC Try.prog 44 [x] [] (fun r _ => r = vecV (cntL l)) := by
 refine VC_enter (nt := 24) (rs := [.cell 2 23]) (ow := []) (m := 0) Try.func44 rfl (by rfl) rfl rfl (by simp) (by simp only [ownOf,List.flatMap_cons,List.flatMap_nil,hx.toks,List.append_nil]) rfl (fun n => ?_)
 simp only [zipT,Nat.zero_add]
 have hcl := True.intro
 have hk6 := True.intro
 have hvl := True.intro
 have hwf := True.intro
 have hi := True.intro
 have hia := True.intro
 have hld := True.intro
 have hst := True.intro
 have hw := True.intro
 have hw1 := True.intro
 have hw2 := True.intro
 refine WC_seqR (fun N1 hN1 hD1 => ?_)
 simp only [sS,↓sT,Nat.reduceLT,Nat.reduceEqDiff,↓sO,↓WOps_g,sG,opV,loudV,cellsOf,strOp,evL,Nat.reduceAdd,Int.reduceBEq,Int.reduceBNe,ti23,vec_set,hcl,hk6,hvl,hwf,icell_int,List.length_map,hx.len,hi,hia,hld,hst,hw,hw1,hw2,zero_vec,vec_cells,all_ints,opCells,load_int,int_load,List.drop_zero,cat_at,cat_set,Nat.le_refl,List.all_cons,List.all_nil,ti3,ti49]
 refine hN1 _ ?_; try clear hN1 hD1 N1
 refine WC_seqR (fun N2 hN2 hD2 => ?_)
 simp only [sS,↓sT,Nat.reduceLT,Nat.reduceEqDiff,↓sO,↓WOps_g,sG,opV,loudV,cellsOf,strOp,evL,Nat.reduceAdd,Int.reduceBEq,Int.reduceBNe,buildV,evParts,V.isCell,List.all_cons,List.all_nil,Bool.and_self,if_true,placesOf,fillV,List.getElem?_cons_zero,List.getElem?_cons_succ,List.length_cons,List.length_nil,Nat.zero_add,ne_eq,not_true_eq_false,false_or,gt_iff_lt,if_false,wrL,Option.map_some,List.set_cons_zero,List.set_cons_succ,ti23,vec_set,hcl,hk6,hvl,hwf,icell_int,List.length_map,hx.len,hi,hia,hld,hst,hw,hw1,hw2,zero_vec,vec_cells,all_ints,opCells,load_int,int_load,List.drop_zero,cat_at,cat_set,Nat.le_refl,ti3,ti49]
 refine hN2 _ ?_; try clear hN2 hD2 N2
 refine WC_seqN (fun N3 hN3 hD3 => ?_)
 refine WC_seqR (fun N4 hN4 hD4 => ?_)
 simp only [sS,↓sT,Nat.reduceLT,Nat.reduceEqDiff,↓sO,↓WOps_g,sG,opV,loudV,cellsOf,strOp,evL,Nat.reduceAdd,Int.reduceBEq,Int.reduceBNe,vec_set,hcl,hk6,hvl,hwf,icell_int,List.length_map,hx.len,hi,hia,hld,hst,hw,hw1,hw2,zero_vec,vec_cells,all_ints,opCells,load_int,int_load,List.drop_zero,cat_at,cat_set,Nat.le_refl,List.all_cons,List.all_nil,ti3,ti49,ti23]
 refine hN4 _ ?_; try clear hN4 hD4 N4
 refine WC_block ?_
 refine WC_loopG (σ := Nat) (fun t s => ∃ ps,s = ⟨mkS 24 ps, [zeroV.map (V.int .i64),(cntL (l.take t)).map (V.int .i64)], [],n⟩ ∧ Has ps [(0,x),(2, .ptr 0 0),(3, .ptr 1 0),(4, .int .i64 t)] ∧ t ≤ l.length) (fun t => l.length - t) 0 ?_ (fun t s hI => ?_)
 · exact ⟨_,rfl,⟨rfl,rfl,rfl,rfl,trivial⟩,Nat.zero_le _⟩
 obtain ⟨ps,rfl,hps,ht⟩ := hI
 refine WC_has hps ?_; clear hps ps
 obtain ⟨c,hc⟩ : ∃ c,cntL (l.take t) = c := ⟨_,rfl⟩
 have hcl : c.length = 6 := by rw [← hc]; rfl
 have hcn := fun k => cntL_le (l.take t) k
 rw [hc] at hcn ⊢
 have hvl : loadV (⟨.arr 6 3,6,48,some [.int .i64 0, .int .i64 0, .int .i64 0, .int .i64 0, .int .i64 0, .int .i64 0]⟩ : TI) (c.map (V.int .i64)) = some (vecV c) := vec_load hcl
 have hwf : wrL (zeroV.map (V.int .i64)) 0 (c.map (V.int .i64)) = c.map (V.int .i64) := wrL_full (by simp [hcl]; rfl)
 refine WC_seqN (fun N5 hN5 hD5 => ?_)
 refine WC_seqR (fun N6 hN6 hD6 => ?_)
 simp only [sS,↓sT,Nat.reduceLT,Nat.reduceEqDiff,↓sO,↓WOps_g,sG,opV,loudV,cellsOf,strOp,evL,Nat.reduceAdd,Int.reduceBEq,Int.reduceBNe,ti52,vec_set,hcl,hk6,hvl,hwf,icell_int,List.length_map,hx.len,hi,hia,hld,hst,hw,hw1,hw2,zero_vec,vec_cells,all_ints,opCells,load_int,int_load,List.drop_zero,cat_at,cat_set,Nat.le_refl,List.all_cons,List.all_nil,ti3,ti49,ti23]
 refine hN6 _ ?_; try clear hN6 hD6 N6
 refine WC_condE ?_
 simp only [sS,↓sT,Nat.reduceLT,Nat.reduceEqDiff,↓stepC_bool]
 refine ⟨fun hb7 => ?_,fun hb7 => ?_⟩
 ·have ht2 : t < l.length := by have := of_decide_eq_true hb7; omega
  obtain ⟨o,ho⟩ : ∃ o,l[t]? = some o := ⟨_,List.getElem?_eq_getElem ht2⟩
  have hi := hx.ia ho
  obtain ⟨o1,o6⟩ := hr o (List.mem_of_getElem? ho)
  obtain ⟨k,hk⟩ : ∃ k,(o.idR - 1).toNat = k := ⟨_,rfl⟩
  have hk5 : k ≤ 5 := by omega
  have hk6 : k + 1 ≤ 6 := by omega
  have hia : indexAddrV Try.prog 23 (.ptr 1 0) (.int .i64 (o.idR - 1)) = some (.ptr 1 k) := by
    rw [vec_ia,if_pos (by omega),hk,Nat.zero_add]
  have hld : loadV (⟨.int .i64,1,8,some [.int .i64 0]⟩ : TI) ((c.map (V.int .i64)).drop k) = some (.int .i64 (c.getD k 0)) := by
    show ((c.map (V.int .i64)).drop k).head? = _
    exact vec_get (by omega)
  have hck := hcn k
  have htk : (l.take t).length ≤ 400 := by rw [List.length_take]; omega
  have hw1 : IntKind.i64.wrap (o.idR - 1) = o.idR - 1 := wrapI (by omega) (by omega)
  have hw2 : IntKind.i64.wrap (c.getD k 0 + 1) = c.getD k 0 + 1 := wrapI (by omega) (by omega)
  have hw : IntKind.i64.wrap ((t : Int) + 1) = (t : Int) + 1 := wrapI (by omega) (by omega)
  refine WC_skip ?_
  refine hN5 _ ?_; try clear hN5 hD5 N5
  refine WC_seqN (fun N8 hN8 hD8 => ?_)
  refine WC_block ?_
  refine WC_regN (fun N9 hN9 => ?_)
  simp only [sS,↓sT,Nat.reduceLT,Nat.reduceEqDiff,↓sO,↓WOps_g,sG,opV,loudV,cellsOf,strOp,evL,Nat.reduceAdd,Int.reduceBEq,Int.reduceBNe,ti52,fS49,fS25,ti3,ti23,vec_set,hcl,hk6,hvl,hwf,icell_int,List.length_map,hx.len,hi,hia,hld,hst,hw,hw1,hw2,zero_vec,vec_cells,all_ints,opCells,load_int,int_load,List.drop_zero,cat_at,cat_set,Nat.le_refl,List.all_cons,List.all_nil,ti49,hb7]
  refine hN9 _ ?_; try clear hN9 N9
  refine hN8 _ ?_; try clear hN8 hD8 N8
  refine WC_regN (fun N10 hN10 => ?_)
  simp only [sS,↓sT,Nat.reduceLT,Nat.reduceEqDiff,↓sO,↓WOps_g,sG,opV,loudV,cellsOf,strOp,evL,Nat.reduceAdd,Int.reduceBEq,Int.reduceBNe,vec_set,hcl,hk6,hvl,hwf,icell_int,List.length_map,hx.len,hi,hia,hld,hst,hw,hw1,hw2,zero_vec,vec_cells,all_ints,opCells,load_int,int_load,List.drop_zero,cat_at,cat_set,Nat.le_refl,List.all_cons,List.all_nil,ti3,ti49,ti23,hb7]
  refine hN10 _ ?_; try clear hN10 N10
  have hst2 : cntL (l.take (t + 1)) = c.set k (c.getD k 0 + 1) := by rw [take_at ho,cntL_step o1 o6,hc,hk]
  rw [← hst2]
  exact ⟨t + 1,⟨_,rfl,⟨rfl,rfl,rfl,rfl,trivial⟩,ht2⟩,by omega⟩
 ·refine WC_exit ?_
  refine hN3 _ ?_; try clear hN3 hD3 N3
  refine WC_seqR (fun N11 hN11 hD11 => ?_)
  simp only [sS,↓sT,Nat.reduceLT,Nat.reduceEqDiff,↓sO,↓WOps_g,sG,opV,loudV,cellsOf,strOp,evL,Nat.reduceAdd,Int.reduceBEq,Int.reduceBNe,ti23,vec_set,hcl,hk6,hvl,hwf,icell_int,List.length_map,hx.len,hi,hia,hld,hst,hw,hw1,hw2,zero_vec,vec_cells,all_ints,opCells,load_int,int_load,List.drop_zero,cat_at,cat_set,Nat.le_refl,List.all_cons,List.all_nil,ti3,ti49,hb7]
  refine hN11 _ ?_; try clear hN11 hD11 N11
  refine WC_ret ?_; (try simp only [Exit.after,Exit.out]); refine Kend_ret (by simp only [resOf,resL,resV,mkS_get,slots_get,cellsOf,ti23,List.getElem?_cons_zero,List.drop_zero,hvl,sS,↓sT,Nat.reduceLT,Nat.reduceEqDiff]; first | done | rfl) (vec_ok _ _) ?_
  clear hN5 hD5 N5
  have ht2 : t = l.length := by have := of_decide_eq_false hb7; omega
  rw [vec_keep,← hc,ht2,List.take_length]
/-- what a vector lacks, at most so many -/
def refSince (m : List OpS) (v : List Int) (most : Int) : List OpS := ((sortL m).filter (lackB v)).take most.toNat
theorem app_grow {L : List OpS} {tok : Option Nat} {ow : List (Nat × Nat)} {nx : Nat} (o : OpS) (hl : L.length ≤ 400) (h : (L = [] ∧ tok = none) ∨ ∃ id, tok = some id ∧ (id, L.length) ∈ ow) :
    ∃ tok' ow' nx',appendV (⟨.struct [(0,25),(2,25),(4,2),(5,9),(6,3),(7,9),(8,47),(11,2),(12,4),(13,9),(14,38)],15,176,some [.int .i64 0, .int .i64 0, .int .i64 0, .int .i64 0, .int .i64 0, .str [], .int .i64 0, .str [], .int .i64 0, .str [], .str [], .int .i64 0, .bool false, .str [], .nils]⟩ : TI) ow nx (.slice 15 (L.map opW) (L.length == 0) tok) [opW o] = some (.slice 15 ((L ++ [o]).map opW) ((L ++ [o]).length == 0) tok',ow',nx') ∧ ∃ id,tok' = some id ∧ (id,(L ++ [o]).length) ∈ ow' := by
  rcases h with ⟨rfl,rfl⟩ | ⟨id,rfl,hid⟩
  · exact ⟨some nx,(nx,1) :: ow,nx + 1,rfl,nx,rfl,by simp⟩
  · cases L with
    | nil => exact ⟨some nx,(nx,1) :: ow,nx + 1,rfl,nx,rfl,by simp⟩
    | cons a L =>
      refine ⟨some id,(id,L.length + 1 + 1) :: ow.filter (fun q => q.1 != id),nx, ?_,id,rfl,by simp⟩
      have h1 : L.length + 1 + 1 ≤ maxApp := by simp at hl; unfold maxApp; omega
      have h2 : (id,L.length + 1) ∈ ow := hid
      simp [appendV,h1,h2]
theorem filter_at {p : OpS → Bool} {l : List OpS} {t : Nat} {o : OpS} (h : l[t]? = some o) : (l.take (t + 1)).filter p = (l.take t).filter p ++ (if p o = true then [o] else []) := by
  rw [take_at h,List.filter_append,List.filter_cons,List.filter_nil]
theorem since_step (F : List OpS) (o : OpS) (most : Int) : (F ++ [o]).take most.toNat = if ((F.take most.toNat).length : Int) < most then F.take most.toNat ++ [o] else F.take most.toNat := by
  rw [List.length_take]
  split
  · rename_i h
    have h1 : F.length < most.toNat := by omega
    rw [List.take_of_length_le (by rw [List.length_append,List.length_singleton]; omega),List.take_of_length_le (by omega)]
  · rename_i h
    exact List.take_append_of_le_length (by omega)
theorem c_punnet_punnetref26_Since (l : List OpS) (x : V) (hx : PS l x) (hl : l.length ≤ 400) (v : List Int) (hv : v.length = 6) (most : Int) : VC Try.prog 43 [x, vecV v, .int .i64 most] [] (fun r _ => r = .slice 15 ((refSince l v most).map opW) ((refSince l v most).length == 0) none) := by
 refine VC_enter (nt := 41) (rs := [.tmp 6]) (ow := []) (m := 0) Try.func43 rfl (by rfl) rfl rfl (by simp) (by simp only [ownOf,List.flatMap_cons,List.flatMap_nil,hx.toks,vec_toks,List.append_nil]; rfl) rfl (fun n => ?_)
 simp only [zipT,Nat.zero_add]
 have hsl := True.intro
 have hyl := True.intro
 have hi := True.intro
 have hap := True.intro
 have hw := True.intro
 refine WC_seqR (fun N1 hN1 hD1 => ?_)
 simp only [sS,↓sT,Nat.reduceLT,Nat.reduceEqDiff,↓sO,↓WOps_g,sG,opV,loudV,cellsOf,strOp,evL,Nat.reduceAdd,Int.reduceBEq,Int.reduceBNe,hsl,hyl,hi,hap,hw,vec_cells,all_ints,(vec_load hv),elems_one,TD.intK?,Option.isSome_some,Nat.reducePow,Nat.reduceLeDiff,range_zero,range_one,op_clean,op_len,List.all_nil,List.all_cons,Bool.and_self,load15,op_cells,opCells,load_int,List.drop_zero,tag_load2,tag_load,ti3,ti49,ti25,ti23]
 refine hN1 _ ?_; try clear hN1 hD1 N1
 refine WC_seqR (fun N2 hN2 hD2 => ?_)
 simp only [sS,↓sT,Nat.reduceLT,Nat.reduceEqDiff,↓sO,↓WOps_g,sG,opV,loudV,cellsOf,strOp,evL,Nat.reduceAdd,Int.reduceBEq,Int.reduceBNe,buildSliceV,ti52,hsl,hyl,hi,hap,hw,vec_cells,all_ints,(vec_load hv),elems_one,TD.intK?,Option.isSome_some,Nat.reducePow,Nat.reduceLeDiff,range_zero,range_one,op_clean,op_len,List.all_nil,List.all_cons,Bool.and_self,load15,op_cells,opCells,load_int,List.drop_zero,tag_load2,tag_load,ti3,ti49,ti25,ti23]
 refine hN2 _ ?_; try clear hN2 hD2 N2
 refine WC_seqR (fun N3 hN3 hD3 => ?_)
 simp only [sS,↓sT,Nat.reduceLT,Nat.reduceEqDiff,↓sO,↓WOps_g,sG,opV,loudV,cellsOf,strOp,evL,Nat.reduceAdd,Int.reduceBEq,Int.reduceBNe,hsl,hyl,hi,hap,hw,vec_cells,all_ints,(vec_load hv),elems_one,TD.intK?,Option.isSome_some,Nat.reducePow,Nat.reduceLeDiff,range_zero,range_one,op_clean,op_len,List.all_nil,List.all_cons,Bool.and_self,load15,op_cells,opCells,load_int,List.drop_zero,tag_load2,tag_load,ti3,ti49,ti25,ti23]
 obtain ⟨S,hS⟩ : ∃ S,sortL l = S := ⟨_,rfl⟩
 have hS4 : S.length ≤ 400 := by rw [← hS,sort_len]; exact hl
 have hPX : PX S (.slice 15 (S.map opW) (l.length == 0) none) := ⟨_,_,rfl⟩
 have hsl := hPX.len
 have cS := c_punnet_punnetref26_Sorted l x hx hl
 rw [hS] at cS
 refine WOps_callP cS (by simp only [ev_func]) (by simp only [evL,sS,↓sT,Nat.reduceLT,Nat.reduceEqDiff]; rfl) (by simp only [List.map_cons,List.map_nil,hx.bare]) (by simp [hx.noP]) rfl rfl ?_
 simp only [sS,↓sT,Nat.reduceLT,Nat.reduceEqDiff,↓sO,↓WOps_g,sG,opV,loudV,cellsOf,strOp,evL,Nat.reduceAdd,Int.reduceBEq,Int.reduceBNe,hsl,hyl,hi,hap,hw,vec_cells,all_ints,(vec_load hv),elems_one,TD.intK?,Option.isSome_some,Nat.reducePow,Nat.reduceLeDiff,range_zero,range_one,op_clean,op_len,List.all_nil,List.all_cons,Bool.and_self,load15,op_cells,opCells,load_int,List.drop_zero,tag_load2,tag_load,ti3,ti49,ti25,ti23]
 refine hN3 _ ?_; try clear hN3 hD3 N3
 refine WC_seqN (fun N4 hN4 hD4 => ?_)
 refine WC_seqR (fun N5 hN5 hD5 => ?_)
 simp only [sS,↓sT,Nat.reduceLT,Nat.reduceEqDiff,↓sO,↓WOps_g,sG,opV,loudV,cellsOf,strOp,evL,Nat.reduceAdd,Int.reduceBEq,Int.reduceBNe,hsl,hyl,hi,hap,hw,vec_cells,all_ints,(vec_load hv),elems_one,TD.intK?,Option.isSome_some,Nat.reducePow,Nat.reduceLeDiff,range_zero,range_one,op_clean,op_len,List.all_nil,List.all_cons,Bool.and_self,load15,op_cells,opCells,load_int,List.drop_zero,tag_load2,tag_load,ti3,ti49,ti25,ti23]
 refine hN5 _ ?_; try clear hN5 hD5 N5
 refine WC_block ?_
 refine WC_loopG (σ := Nat × List OpS) (fun t s => ∃ ps tok ow nx,s = ⟨mkS 41 ps, [v.map (V.int .i64)],ow,nx⟩ ∧ Has ps [(2, .int .i64 most),(4, .ptr 0 0),(7, .slice 15 (t.2.map opW) (t.2.length == 0) tok),(8, .slice 15 (S.map opW) (l.length == 0) none),(9, .int .i64 t.1)] ∧ t.1 ≤ S.length ∧ t.2 = ((S.take t.1).filter (lackB v)).take most.toNat ∧ ((t.2 = [] ∧ tok = none) ∨ ∃ id,tok = some id ∧ (id,t.2.length) ∈ ow)) (fun t => S.length - t.1) (0, []) ?_ (fun t s hI => ?_)
 · refine ⟨_,none,_,_,rfl, ?_,Nat.zero_le _,by simp, .inl ⟨rfl,rfl⟩⟩
   exact ⟨rfl,rfl,rfl,rfl,rfl,trivial⟩
 obtain ⟨ps,tok,ow,nx,rfl,hps,ht,hL,htok⟩ := hI
 refine WC_has hps ?_; clear hps ps
 obtain ⟨t,L⟩ := t
 simp only at ht hL htok ⊢
 have hL4 : L.length ≤ 400 := by
   rw [hL,List.length_take]
   have h1 := List.length_filter_le (lackB v) (S.take t)
   have h2 := List.length_take_le t S
   omega
 have hyl : lenV Try.prog 52 (.slice 15 (L.map opW) (L.length == 0) tok) = some (.int .i64 L.length) := PX.len ⟨_,_,rfl⟩
 refine WC_seqN (fun N6 hN6 hD6 => ?_)
 refine WC_seqR (fun N7 hN7 hD7 => ?_)
 simp only [sS,↓sT,Nat.reduceLT,Nat.reduceEqDiff,↓sO,↓WOps_g,sG,opV,loudV,cellsOf,strOp,evL,Nat.reduceAdd,Int.reduceBEq,Int.reduceBNe,ti52,hsl,hyl,hi,hap,hw,vec_cells,all_ints,(vec_load hv),elems_one,TD.intK?,Option.isSome_some,Nat.reducePow,Nat.reduceLeDiff,range_zero,range_one,op_clean,op_len,List.all_nil,List.all_cons,Bool.and_self,load15,op_cells,opCells,load_int,List.drop_zero,tag_load2,tag_load,ti3,ti49,ti25,ti23]
 refine hN7 _ ?_; try clear hN7 hD7 N7
 refine WC_condE ?_
 simp only [sS,↓sT,Nat.reduceLT,Nat.reduceEqDiff,↓stepC_bool]
 refine ⟨fun hb8 => ?_,fun hb8 => ?_⟩
 ·have ht2 : t < S.length := by have := of_decide_eq_true hb8; omega
  obtain ⟨o,ho⟩ : ∃ o,S[t]? = some o := ⟨_,List.getElem?_eq_getElem ht2⟩
  have hi := hPX.ia ho
  have hw : IntKind.i64.wrap ((t : Int) + 1) = (t : Int) + 1 := wrapI (by omega) (by omega)
  obtain ⟨tok',ow',nx',hap,htok'⟩ := app_grow (nx := nx) o hL4 htok
  have hstep := filter_at (p := lackB v) ho
  refine WC_skip ?_
  refine hN6 _ ?_; try clear hN6 hD6 N6
  refine WC_seqN (fun N9 hN9 hD9 => ?_)
  refine WC_block ?_
  refine WC_seqD mixed [] [0,0,0,0,0,0,0,0,0,0,0,0,0,0] (by decide +kernel) (fun N10 hN10 hD10 => ?_)
  simp only [sS,↓sT,Nat.reduceLT,Nat.reduceEqDiff,↓sD,↓D_g,memOk,lets0,lets1,List.not_mem_nil,not_false_eq_true,true_and,and_true,sG,opV,loudV,cellsOf,strOp,evL,Nat.reduceAdd,Int.reduceBEq,Int.reduceBNe,ti23,ti52,fS49,ti25,hsl,hyl,hi,hap,hw,vec_cells,all_ints,(vec_load hv),elems_one,TD.intK?,Option.isSome_some,Nat.reducePow,Nat.reduceLeDiff,range_zero,range_one,op_clean,op_len,List.all_nil,List.all_cons,Bool.and_self,load15,op_cells,opCells,load_int,List.drop_zero,tag_load2,tag_load,ti3,ti49,hb8]
  refine D_callP (c_punnet_punnetref25_Has v hv o.idR o.idN) (by simp only [ev_func]) (by simp only [evL,sS,↓sT,Nat.reduceLT,Nat.reduceEqDiff]; rfl) (by first | rfl | (simp only [List.map,vec_bare,tag_bare]; done) | (simp only [List.map,vec_bare,tag_bare]; exact rfl)) (by first | rfl | simp [vec_noP,tag_noP]) (by first | rfl | simp [vec_noP,tag_noP]) rfl ?_
  simp only [sS,↓sT,Nat.reduceLT,Nat.reduceEqDiff,↓sD,↓D_g,memOk,lets0,lets1,List.not_mem_nil,not_false_eq_true,true_and,and_true,sG,opV,loudV,cellsOf,strOp,evL,Nat.reduceAdd,Int.reduceBEq,Int.reduceBNe,ti23,ti52,fS49,ti25,hsl,hyl,hi,hap,hw,vec_cells,all_ints,(vec_load hv),elems_one,TD.intK?,Option.isSome_some,Nat.reducePow,Nat.reduceLeDiff,range_zero,range_one,op_clean,op_len,List.all_nil,List.all_cons,Bool.and_self,load15,op_cells,opCells,load_int,List.drop_zero,tag_load2,tag_load,ti3,ti49,hb8]
  refine stepB_T (fun hg10_8 => ?_) (fun hg10_8 => ?_)
  ·simp only [sS,↓sT,Nat.reduceLT,Nat.reduceEqDiff,↓sD,↓D_g,memOk,lets0,lets1,List.not_mem_nil,not_false_eq_true,true_and,and_true,sG,opV,loudV,cellsOf,strOp,evL,Nat.reduceAdd,Int.reduceBEq,Int.reduceBNe,ti23,ti52,fS49,ti25,hsl,hyl,hi,hap,hw,vec_cells,all_ints,(vec_load hv),elems_one,TD.intK?,Option.isSome_some,Nat.reducePow,Nat.reduceLeDiff,range_zero,range_one,op_clean,op_len,List.all_nil,List.all_cons,Bool.and_self,load15,op_cells,opCells,load_int,List.drop_zero,tag_load2,tag_load,ti3,ti49,hb8,hg10_8]
   refine hN10 _ ?_; try clear hN10 hD10 N10
   refine WC_condE ?_
   simp only [sS,↓sT,Nat.reduceLT,Nat.reduceEqDiff,↓stepC_bool,hb8,hg10_8,Int.reduceBEq,Int.reduceBNe,beq_self_eq_true,bne_self_eq_false]
   refine ⟨fun hb11 => ?_,fun hb11 => ?_⟩
   ·refine WC_regN (fun N12 hN12 => ?_)
    simp only [sS,↓sT,Nat.reduceLT,Nat.reduceEqDiff,↓sO,↓WOps_g,sG,opV,loudV,cellsOf,strOp,evL,Nat.reduceAdd,Int.reduceBEq,Int.reduceBNe,ti52,ti49,buildSliceV,hsl,hyl,hi,hap,hw,vec_cells,all_ints,(vec_load hv),elems_one,TD.intK?,Option.isSome_some,Nat.reducePow,Nat.reduceLeDiff,range_zero,range_one,op_clean,op_len,List.all_nil,List.all_cons,Bool.and_self,load15,op_cells,opCells,load_int,List.drop_zero,tag_load2,tag_load,ti3,ti25,ti23,hb8,hg10_8,hb11]
    refine hN12 _ ?_; try clear hN12 N12
    refine hN9 _ ?_; try clear hN9 hD9 N9
    refine WC_regN (fun N13 hN13 => ?_)
    simp only [sS,↓sT,Nat.reduceLT,Nat.reduceEqDiff,↓sO,↓WOps_g,sG,opV,loudV,cellsOf,strOp,evL,Nat.reduceAdd,Int.reduceBEq,Int.reduceBNe,hsl,hyl,hi,hap,hw,vec_cells,all_ints,(vec_load hv),elems_one,TD.intK?,Option.isSome_some,Nat.reducePow,Nat.reduceLeDiff,range_zero,range_one,op_clean,op_len,List.all_nil,List.all_cons,Bool.and_self,load15,op_cells,opCells,load_int,List.drop_zero,tag_load2,tag_load,ti3,ti49,ti25,ti23,hb8,hg10_8,hb11]
    refine hN13 _ ?_; try clear hN13 N13
    have hss := since_step ((S.take t).filter (lackB v)) o most
    rw [← hL] at hss
    first
    | (refine ⟨(t + 1,L ++ [o]),⟨_,tok',ow',nx',rfl, ?_,ht2, ?_, .inr htok'⟩,by show S.length - (t + 1) < S.length - t; omega⟩
       · exact ⟨rfl,rfl,rfl,rfl,rfl,trivial⟩
       · show L ++ [o] = ((S.take (t + 1)).filter (lackB v)).take most.toNat
         rw [hstep,if_pos (show lackB v o = true from hg10_8),hss,if_pos (of_decide_eq_true hb11)])
    | (refine ⟨(t + 1,L),⟨_,tok,ow,nx,rfl, ?_,ht2, ?_,htok⟩,by show S.length - (t + 1) < S.length - t; omega⟩
       · exact ⟨rfl,rfl,rfl,rfl,rfl,trivial⟩
       · show L = ((S.take (t + 1)).filter (lackB v)).take most.toNat
         first
         | (rw [hstep,if_pos (show lackB v o = true from hg10_8),hss,if_neg (of_decide_eq_false hb11)]; done)
         | (rw [hstep,if_neg (by rw [show lackB v o = false from hg10_8]; simp),List.append_nil]; exact hL))
   ·refine WC_skip ?_
    refine hN9 _ ?_; try clear hN9 hD9 N9
    refine WC_regN (fun N14 hN14 => ?_)
    simp only [sS,↓sT,Nat.reduceLT,Nat.reduceEqDiff,↓sO,↓WOps_g,sG,opV,loudV,cellsOf,strOp,evL,Nat.reduceAdd,Int.reduceBEq,Int.reduceBNe,hsl,hyl,hi,hap,hw,vec_cells,all_ints,(vec_load hv),elems_one,TD.intK?,Option.isSome_some,Nat.reducePow,Nat.reduceLeDiff,range_zero,range_one,op_clean,op_len,List.all_nil,List.all_cons,Bool.and_self,load15,op_cells,opCells,load_int,List.drop_zero,tag_load2,tag_load,ti3,ti49,ti25,ti23,hb8,hg10_8,hb11]
    refine hN14 _ ?_; try clear hN14 N14
    have hss := since_step ((S.take t).filter (lackB v)) o most
    rw [← hL] at hss
    first
    | (refine ⟨(t + 1,L ++ [o]),⟨_,tok',ow',nx',rfl, ?_,ht2, ?_, .inr htok'⟩,by show S.length - (t + 1) < S.length - t; omega⟩
       · exact ⟨rfl,rfl,rfl,rfl,rfl,trivial⟩
       · show L ++ [o] = ((S.take (t + 1)).filter (lackB v)).take most.toNat
         rw [hstep,if_pos (show lackB v o = true from hg10_8),hss,if_pos (of_decide_eq_true hb11)])
    | (refine ⟨(t + 1,L),⟨_,tok,ow,nx,rfl, ?_,ht2, ?_,htok⟩,by show S.length - (t + 1) < S.length - t; omega⟩
       · exact ⟨rfl,rfl,rfl,rfl,rfl,trivial⟩
       · show L = ((S.take (t + 1)).filter (lackB v)).take most.toNat
         first
         | (rw [hstep,if_pos (show lackB v o = true from hg10_8),hss,if_neg (of_decide_eq_false hb11)]; done)
         | (rw [hstep,if_neg (by rw [show lackB v o = false from hg10_8]; simp),List.append_nil]; exact hL))
  ·simp only [sS,↓sT,Nat.reduceLT,Nat.reduceEqDiff,↓sD,↓D_g,memOk,lets0,lets1,List.not_mem_nil,not_false_eq_true,true_and,and_true,sG,opV,loudV,cellsOf,strOp,evL,Nat.reduceAdd,Int.reduceBEq,Int.reduceBNe,ti23,ti52,fS49,ti25,hsl,hyl,hi,hap,hw,vec_cells,all_ints,(vec_load hv),elems_one,TD.intK?,Option.isSome_some,Nat.reducePow,Nat.reduceLeDiff,range_zero,range_one,op_clean,op_len,List.all_nil,List.all_cons,Bool.and_self,load15,op_cells,opCells,load_int,List.drop_zero,tag_load2,tag_load,ti3,ti49,hb8,hg10_8]
   refine hN10 _ ?_; try clear hN10 hD10 N10
   refine WC_condE ?_
   simp only [sS,↓sT,Nat.reduceLT,Nat.reduceEqDiff,↓stepC_bool,hb8,hg10_8,Int.reduceBEq,Int.reduceBNe,beq_self_eq_true,bne_self_eq_false]
   refine ⟨fun hb => (by cases hb),fun hb => ?_⟩
   refine WC_skip ?_
   refine hN9 _ ?_; try clear hN9 hD9 N9
   refine WC_regN (fun N15 hN15 => ?_)
   simp only [sS,↓sT,Nat.reduceLT,Nat.reduceEqDiff,↓sO,↓WOps_g,sG,opV,loudV,cellsOf,strOp,evL,Nat.reduceAdd,Int.reduceBEq,Int.reduceBNe,hsl,hyl,hi,hap,hw,vec_cells,all_ints,(vec_load hv),elems_one,TD.intK?,Option.isSome_some,Nat.reducePow,Nat.reduceLeDiff,range_zero,range_one,op_clean,op_len,List.all_nil,List.all_cons,Bool.and_self,load15,op_cells,opCells,load_int,List.drop_zero,tag_load2,tag_load,ti3,ti49,ti25,ti23,hb8,hg10_8]
   refine hN15 _ ?_; try clear hN15 N15
   have hss := since_step ((S.take t).filter (lackB v)) o most
   rw [← hL] at hss
   first
   | (refine ⟨(t + 1,L ++ [o]),⟨_,tok',ow',nx',rfl, ?_,ht2, ?_, .inr htok'⟩,by show S.length - (t + 1) < S.length - t; omega⟩
      · exact ⟨rfl,rfl,rfl,rfl,rfl,trivial⟩
      · show L ++ [o] = ((S.take (t + 1)).filter (lackB v)).take most.toNat
        rw [hstep,if_pos (show lackB v o = true from hg10_8),hss,if_pos (of_decide_eq_true hb11)])
   | (refine ⟨(t + 1,L),⟨_,tok,ow,nx,rfl, ?_,ht2, ?_,htok⟩,by show S.length - (t + 1) < S.length - t; omega⟩
      · exact ⟨rfl,rfl,rfl,rfl,rfl,trivial⟩
      · show L = ((S.take (t + 1)).filter (lackB v)).take most.toNat
        first
        | (rw [hstep,if_pos (show lackB v o = true from hg10_8),hss,if_neg (of_decide_eq_false hb11)]; done)
        | (rw [hstep,if_neg (by rw [show lackB v o = false from hg10_8]; simp),List.append_nil]; exact hL))
 ·refine WC_exit ?_
  refine hN4 _ ?_; try clear hN4 hD4 N4
  refine WC_seqR (fun N16 hN16 hD16 => ?_)
  simp only [sS,↓sT,Nat.reduceLT,Nat.reduceEqDiff,↓sO,↓WOps_g,sG,opV,loudV,cellsOf,strOp,evL,Nat.reduceAdd,Int.reduceBEq,Int.reduceBNe,hsl,hyl,hi,hap,hw,vec_cells,all_ints,(vec_load hv),elems_one,TD.intK?,Option.isSome_some,Nat.reducePow,Nat.reduceLeDiff,range_zero,range_one,op_clean,op_len,List.all_nil,List.all_cons,Bool.and_self,load15,op_cells,opCells,load_int,List.drop_zero,tag_load2,tag_load,ti3,ti49,ti25,ti23,hb8]
  refine hN16 _ ?_; try clear hN16 hD16 N16
  refine WC_sub (ow' := []) (fun q hq => by cases hq) ?_
  refine WC_ret ?_; (try simp only [Exit.after,Exit.out]); refine Kend_ret (by first | (simp only [resOf,resL,resV,mkS_get,slots_get,cellsOf,sS,↓sT,Nat.reduceLT,Nat.reduceEqDiff]; done) | (simp only [resOf,resL,resV,mkS_get,slots_get,cellsOf,sS,↓sT,Nat.reduceLT,Nat.reduceEqDiff]; rfl)) rfl ?_
  clear hN6 hD6 N6
  have ht2 : t = S.length := by have := of_decide_eq_false hb8; omega
  rw [keep_tok,refSince,hS,← List.take_length (l := S),← ht2,← hL]
end Go.PV
/- PoolPuts: the plain law. -/
namespace Go.PV
open Go.Proofs
set_option linter.unusedVariables false
set_option linter.unusedSimpArgs false
set_option maxHeartbeats 1000000

theorem flat_eq {Ls : List (List OpS)} {m : List OpS} (h : Rel Ls m) : (Ls.take 6).flatten = (flatG m).map OpS.own := by
  have k := fun i hi => h.gr i hi
  obtain ⟨a0,a1,a2,a3,a4,a5,rfl⟩ := six h.len
  have e0 := k 0 (by omega)
  have e1 := k 1 (by omega)
  have e2 := k 2 (by omega)
  have e3 := k 3 (by omega)
  have e4 := k 4 (by omega)
  have e5 := k 5 (by omega)
  simp only [List.getD_cons_zero,List.getD_cons_succ] at e0 e1 e2 e3 e4 e5
  subst e0 e1 e2 e3 e4 e5
  simp only [List.take_succ_cons,List.take_zero,List.flatten_cons,List.flatten_nil,List.append_nil,flatG,List.map_append]
  rfl
theorem part_eq {Ls : List (List OpS)} {m : List OpS} (h : Rel Ls m) (v : List Int) : partL Ls v 6 = ((flatG m).filter (lackB v)).map OpS.own := by
  rw [partL,flat_eq h,List.filter_map,List.map_map]
  rw [show OpS.own ∘ OpS.own = OpS.own from funext fun o => own_own o,show lackB v ∘ OpS.own = lackB v from rfl]
theorem sameOps_own (l : List OpS) : sameOps (l.map OpS.own) l = true := by
  simp only [sameOps,List.length_map,beq_self_eq_true,Bool.true_and,List.all_eq_true]
  intro b hb
  obtain ⟨j,hj⟩ := List.getElem?_of_mem hb
  rw [List.getElem?_zipWith,List.getElem?_map] at hj
  cases ho : l[j]? with
  | none => rw [ho] at hj; cases hj
  | some o =>
    rw [ho] at hj
    simp only [Option.map_some,Option.some.injEq] at hj
    rw [← hj,sameO_own,sameO_refl]; rfl
theorem since_eq {Ls : List (List OpS)} {m : List OpS} (h : Came Ls m) (v : List Int) (most : Int) : sinceL Ls v most = (refSince m v most).map OpS.own := by
  rw [sinceL,part_eq h.rel,refSince,h.sort,List.map_take]
theorem ops_eq {Ls : List (List OpS)} {m : List OpS} (h : Came Ls m) (hm : m.length ≤ 60) : sinceL Ls zeroV 400 = (sortL m).map OpS.own := by
  rw [since_all h.rel hm,part_eq h.rel,h.sort,List.filter_eq_self.2 fun o _ => lack_zero o]
theorem have_eq {Ls : List (List OpS)} {m : List OpS} (h : Rel Ls m) : haveL Ls = cntL m := by
  have k := fun i hi => h.gr i hi
  obtain ⟨a0,a1,a2,a3,a4,a5,rfl⟩ := six h.len
  have e0 := k 0 (by omega)
  have e1 := k 1 (by omega)
  have e2 := k 2 (by omega)
  have e3 := k 3 (by omega)
  have e4 := k 4 (by omega)
  have e5 := k 5 (by omega)
  simp only [List.getD_cons_zero,List.getD_cons_succ] at e0 e1 e2 e3 e4 e5
  subst e0 e1 e2 e3 e4 e5
  simp only [haveL,cntL,List.map_cons,List.map_nil,List.length_map]
  rfl
theorem len_eq {Ls : List (List OpS)} {m : List OpS} (h : Rel Ls m) (hm : m.length ≤ 60) : (sumS (haveL Ls)).1 = (m.length : Int) := by
  have hr : rightB (haveL Ls) = true := by
    rw [have_eq h]
    have k := fun i => cntL_le m i
    have k0 := k 0
    have k1 := k 1
    have k2 := k 2
    have k3 := k 3
    have k4 := k 4
    have k5 := k 5
    simp only [cntL,List.getD_cons_zero,List.getD_cons_succ] at k0 k1 k2 k3 k4 k5
    simp only [cntL,rightB,List.all_cons,List.all_nil,Bool.and_true,Bool.and_eq_true,decide_eq_true_eq]
    omega
  rw [sumS,if_neg (by rw [hr]; simp)]
  show (haveL Ls).sum = _
  rw [tot_have,h.tt]
theorem clock_ge (l : List OpS) : 0 ≤ clockL l ∧ (∀ o ∈ l, o.time ≤ clockL l) ∧ (clockL l = 0 ∨ ∃ o ∈ l, o.time = clockL l) := by
  have key : ∀ (l : List OpS) (n : Int),0 ≤ n → n ≤ l.foldl (fun n o => if o.time > n then o.time else n) n ∧ (∀ o ∈ l,o.time ≤ l.foldl (fun n o => if o.time > n then o.time else n) n) ∧
      (l.foldl (fun n o => if o.time > n then o.time else n) n = n ∨ ∃ o ∈ l,o.time = l.foldl (fun n o => if o.time > n then o.time else n) n) := by
    intro l
    induction l with
    | nil => intro n hn; exact ⟨Int.le_refl _,fun o ho => (by cases ho), .inl rfl⟩
    | cons a l ih =>
      intro n hn
      simp only [List.foldl_cons]
      by_cases h : a.time > n
      · rw [if_pos h]
        obtain ⟨h1,h2,h3⟩ := ih a.time (by omega)
        refine ⟨by omega,fun o ho => ?_, ?_⟩
        · rcases List.mem_cons.1 ho with rfl | ho
          · exact h1
          · exact h2 o ho
        · rcases h3 with h3 | ⟨o,ho,h3⟩
          · exact .inr ⟨a,by simp,h3.symm⟩
          · exact .inr ⟨o,by simp [ho],h3⟩
      · rw [if_neg h]
        obtain ⟨h1,h2,h3⟩ := ih n hn
        refine ⟨h1,fun o ho => ?_, ?_⟩
        · rcases List.mem_cons.1 ho with rfl | ho
          · omega
          · exact h2 o ho
        · rcases h3 with h3 | ⟨o,ho,h3⟩
          · exact .inl h3
          · exact .inr ⟨o,by simp [ho],h3⟩
  have := key l 0 (Int.le_refl _)
  exact this
theorem clock_mem {l k : List OpS} (h : ∀ t, (∃ o ∈ l, o.time = t) ↔ ∃ o ∈ k, o.time = t) : clockL l = clockL k := by
  obtain ⟨a1,a2,a3⟩ := clock_ge l
  obtain ⟨b1,b2,b3⟩ := clock_ge k
  have h1 : clockL l ≤ clockL k := by
    rcases a3 with a3 | ha
    · omega
    · obtain ⟨o,ho,e⟩ := (h _).1 ha
      have := b2 o ho; omega
  have h2 : clockL k ≤ clockL l := by
    rcases b3 with b3 | hb
    · omega
    · obtain ⟨o,ho,e⟩ := (h _).2 hb
      have := a2 o ho; omega
  omega
theorem mem_flat {Ls : List (List OpS)} {m : List OpS} (h : Rel Ls m) {o : OpS} (ho : o ∈ m) : o ∈ flatG m := by
  obtain ⟨r1,r6,_⟩ := right_facts (h.right o ho)
  have hg : ∀ r : Int,o.idR = r → o ∈ grp m r := fun r hr => List.mem_filter.2 ⟨ho,by simp [hr]⟩
  simp only [flatG,List.mem_append]
  rcases (show o.idR = 1 ∨ o.idR = 2 ∨ o.idR = 3 ∨ o.idR = 4 ∨ o.idR = 5 ∨ o.idR = 6 by omega) with e | e | e | e | e | e
  · exact .inl (hg _ e)
  · exact .inr (.inl (hg _ e))
  · exact .inr (.inr (.inl (hg _ e)))
  · exact .inr (.inr (.inr (.inl (hg _ e))))
  · exact .inr (.inr (.inr (.inr (.inl (hg _ e)))))
  · exact .inr (.inr (.inr (.inr (.inr (hg _ e)))))
theorem clock_eq {Ls : List (List OpS)} {m : List OpS} (h : Came Ls m) (hm : m.length ≤ 60) : clockL (sinceL Ls zeroV 400) = clockL m := by
  rw [ops_eq h hm,h.sort]
  refine clock_mem fun t => ⟨?_, ?_⟩
  · rintro ⟨o,ho,e⟩
    obtain ⟨p,hp,rfl⟩ := List.mem_map.1 ho
    exact ⟨p,flat_mem hp,e⟩
  · rintro ⟨o,ho,e⟩
    exact ⟨o.own,List.mem_map.2 ⟨o,mem_flat h.rel ho,rfl⟩,e⟩
/-- what is found, and where -/
theorem find_law {Ls : List (List OpS)} {m : List OpS} (h : Rel Ls m) (r n : Int) :
    (atL m r n < 0 → findS Ls r n = (opZ,6)) ∧ (0 ≤ atL m r n → ∃ p,m[(atL m r n).toNat]? = some p ∧ findS Ls r n = (p.own,0)) := by
  have hA := (atL_iff m r n).trans (h.has r n)
  constructor
  · intro hn
    have : hasB (haveL Ls) r n = false := by
      cases hb : hasB (haveL Ls) r n with
      | false => rfl
      | true =>
        simp only [hasB,Bool.and_eq_true,decide_eq_true_eq] at hb
        obtain ⟨t1,t2,t3,_⟩ := tagB_iff.1 hb.1
        rw [have_getD,h.gr _ (by omega),List.length_map,show (((r - 1).toNat : Nat) : Int) + 1 = r from by omega] at hb
        have := hA.2 ⟨t3,hb.2⟩
        omega
    rw [findS,this]; rfl
  · intro h0
    obtain ⟨p,hp,hb⟩ := atL_get h0
    refine ⟨p,hp, ?_⟩
    have hpm := List.mem_of_getElem? hp
    have hat := h.at hpm hb
    have hR := h.right p hpm
    have hT : tagB p.idR p.idN = true := by
      simp only [rightS,Bool.and_eq_true] at hR; exact hR.2.2.2.2.2.1
    simp only [isB,Bool.and_eq_true,beq_iff_eq] at hb
    rw [hb.1,hb.2] at hT
    obtain ⟨t1,t2,t3,_⟩ := tagB_iff.1 hT
    have hL := h.gr (r - 1).toNat (by omega)
    rw [show (((r - 1).toNat : Nat) : Int) + 1 = r from by omega] at hL
    have hH : hasB (haveL Ls) r n = true := by
      rw [hasB,hT,Bool.true_and,have_getD,hL,List.length_map]
      exact decide_eq_true (hA.1 h0).2
    rw [findS,if_pos hH,atS,hL]
    simp only [List.getD,List.getElem?_map,hat,Option.map_some,Option.getD_some,own_own]
end Go.PV
