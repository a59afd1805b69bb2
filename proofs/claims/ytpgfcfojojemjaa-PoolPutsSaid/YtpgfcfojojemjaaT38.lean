/- punnetlaw26.PoolPuts: the walk. -/
import Derived.Test.YtpgfcfojojemjaaT37
namespace Go.PV
open Go.Proofs
set_option linter.unusedVariables false
set_option linter.unusedSimpArgs false
set_option maxRecDepth 10000
set_option maxHeartbeats 4000000

section
variable {ops : Array Oper} {os : List Oper} {K : St → Prop} {s : St} {dst : Option Tmp} {ty : TypeId} {pos : String} {after : Array Edge}
/-- Find of a pool without tokens -/
theorem WOps_findB {f : Operand} {args : Array Operand} {ts : Array TypeId} {b : Nat} {Ls : List (List OpS)} {cs : List V} {r t : Int} (hP : PCt Ls cs) (h0 : cs.flatMap V.tokC = []) (hd : OkLs Ls)
    (hf : ev s f = some (.func (.func 39) [])) (hx : evL s args.toList = some [.ptr b 0,tagV r t]) (hb : s.heap[b]? = some cs)
    (k : ∀ ow' n',(∀ q ∈ s.own,q ∈ ow') → WOps Try.prog ops os K (St.put ⟨s.slots,s.heap.set b cs,ow',n'⟩ dst (.tup [opW (findS Ls r t).1, .int .i64 (findS Ls r t).2]))) :
    WOps Try.prog ops (⟨dst, .call ⟨.value f,args,ts⟩,ty,pos,after,none⟩ :: os) K s := by
  refine WOps_callH (b := b) (o := 0) (ys := [tagV r t]) (cs := cs) (h__punnet_pool_Pool_Find Ls cs hP r t hd) hf hx hb (by intro y hy; obtain rfl := List.mem_singleton.1 hy; rfl) (fun c hc => by obtain ⟨l,_,hl⟩ := hP.mem hc; exact ⟨hl.facts.1,hl.facts.2.1⟩) (fun q hq => by rw [h0] at hq; cases hq) ?_
  rintro _ _ n' ⟨rfl,rfl⟩ hnn
  refine ⟨cs,rfl,hP.noP,tup_noP _ _,k _ n' fun q hq => ?_⟩
  rw [tup_toks,List.nil_append,h0]
  exact List.mem_append_right _ (List.mem_filter.2 ⟨hq,by simp⟩)
/-- Copy of a pool without tokens -/
theorem WOps_copyB {f : Operand} {args : Array Operand} {ts : Array TypeId} {b : Nat} {Ls : List (List OpS)} {m : List OpS} {y : V} {cs : List V} (hF : Fill Ls m y cs)
    (hf : ev s f = some (.func (.func 42) [])) (hx : evL s args.toList = some [.ptr b 0]) (hb : s.heap[b]? = some cs)
    (k : ∀ ds ow' n',PCt Ls ds → ds.flatMap V.tokC = [] → WOps Try.prog ops os K (St.put ⟨s.slots,s.heap.set b cs ++ [ds],ow',n'⟩ dst (.ptr s.heap.length 0))) :
    WOps Try.prog ops (⟨dst, .call ⟨.value f,args,ts⟩,ty,pos,after,none⟩ :: os) K s := by
  simp only [WOps,WOp,WOp1]
  unfold WRun
  simp only [opV,loudV]
  refine ⟨_, [],_,hf,hx, ?_⟩
  rw [List.append_nil]
  have hR := hF.c.rel
  have hc : ∀ c ∈ cs,c.noP0 = true ∧ c.isCell = true := fun c hc => by obtain ⟨l,_,hl⟩ := hF.p.mem hc; exact ⟨hl.facts.1,hl.facts.2.1⟩
  have hto : ownOf [.ptr 0 0] [cs] = [] := by
    simp only [ownOf,List.flatMap_cons,List.flatMap_nil,hF.t,List.append_nil]; rfl
  refine .ref [b] [.ptr 0 0] [cs] _ (h__punnet_pool_Pool_Copy Ls m hR hF.n hF.e cs hF.p hF.t hF.d (fun l hl => by have := len_tot hl; have := hR.tt; have := hF.n; omega)) ⟨⟨by simp [ok1,okC,okP], .inl (by simp [ren1,renC,renP])⟩,trivial⟩ (by simp) ⟨⟨cs,hb,fitsCL_self hc⟩,trivial⟩ (by rw [hto]; intro q hq; cases hq) trivial (fun h => absurd rfl h) ?_
  rintro r h' n' ⟨rfl,ds,rfl,hP,hT⟩ hn _
  have e1 : ren (rhoAfter s.heap.length [b] 2) (.ptr 1 0) = .ptr s.heap.length 0 := by simp [rhoAfter,ren,ren1,renC,renP]
  have e2 : heapAfter s.heap [b] [cs,ds] = s.heap.set b cs ++ [ds] := by
    simp only [heapAfter,List.length_singleton,List.take_succ_cons,List.take_zero,List.map_cons,List.map_nil,map_renC hF.p.noP,map_renC hP.noP,setAll,List.drop_succ_cons,List.drop_zero]
  have e4 : [cs,ds].length = 2 := rfl
  rw [e4,e1,e2]
  exact k ds _ n' hP hT
end
theorem c_punnet_punnetlaw26_PoolPuts (l : List OpS) (x : V) (hx : PS l x) (hl : l.length ≤ maxLen) (a c : Int) (v : List Int) (hv : v.length = 6) (most : Int) : VC Try.prog 9 [x, tagV a c, vecV v, .int .i64 most] [] (fun r _ => r = .bool true) := by
 refine VC_enter (nt := 112) (rs := [.tmp 8]) (ow := []) (m := 0) Try.func9 rfl (by rfl) rfl rfl (by simp) (by simp only [ownOf,List.flatMap_cons,List.flatMap_nil,hx.toks,vec_toks,tag_toks,List.append_nil]; rfl) rfl (fun n => ?_)
 simp only [zipT,Nat.zero_add]
 have hyb := True.intro
 have hyn := True.intro
 have hyl := True.intro
 have hip := True.intro
 have hve := True.intro
 have hle := True.intro
 have hce := True.intro
 refine WC_seqR (fun N1 hN1 hD1 => ?_)
 simp only [sS,↓sT,Nat.reduceLT,Nat.reduceEqDiff,↓sO,↓WOps_g,sG,opV,loudV,cellsOf,strOp,evL,Nat.reduceAdd,Int.reduceBEq,Int.reduceBNe,or_self,not_false_eq_true,hyl,hip,hve,hle,hce,vec_cells,all_ints,(vec_load hv),tag_cells,tag_isC,cat_at,cat_set,wr15,op_isC,op_full,op_len,op_cells,opCells,icell_int,icell_str,icell_bool,dropsW_isC,Bool.and_self,load15,load_int,tag_load2,tag_load,tag_fold,opZ_w,List.drop_zero,List.all_cons,List.all_nil,gt_iff_lt,ge_iff_le,List.mem_singleton,List.mem_cons,ti3,ti2,ti9,ti4,ti47,ti38,ti49,ti25,ti23]
 refine hN1 _ ?_; try clear hN1 hD1 N1
 refine WC_seqN (fun N2 hN2 hD2 => ?_)
 refine WC_seqR (fun N3 hN3 hD3 => ?_)
 refine WOps_callP x_awake26 (by simp only [ev_func]) (by simp only [evL,sS,↓sT,Nat.reduceLT,Nat.reduceEqDiff]; rfl) (by first | rfl | (simp only [List.map,vec_bare,tag_bare,hx.bare,op_bare,hyb]; done) | (simp only [List.map,vec_bare,tag_bare,hx.bare,op_bare,hyb]; exact rfl)) (by first | rfl | simp [vec_noP,tag_noP,hx.noP,noP_int,op_noP,hyn]) (by first | rfl | simp [vec_noP,tag_noP,hx.noP,noP_int,op_noP,hyn]) (by first | exact op_bare _ | exact vec_bare _ | rfl) ?_
 simp only [sS,↓sT,Nat.reduceLT,Nat.reduceEqDiff,↓sO,↓WOps_g,sG,opV,loudV,cellsOf,strOp,evL,Nat.reduceAdd,Int.reduceBEq,Int.reduceBNe,or_self,not_false_eq_true,hyl,hip,hve,hle,hce,vec_cells,all_ints,(vec_load hv),tag_cells,tag_isC,cat_at,cat_set,wr15,op_isC,op_full,op_len,op_cells,opCells,icell_int,icell_str,icell_bool,dropsW_isC,Bool.and_self,load15,load_int,tag_load2,tag_load,tag_fold,opZ_w,List.drop_zero,List.all_cons,List.all_nil,gt_iff_lt,ge_iff_le,List.mem_singleton,List.mem_cons,ti3,ti2,ti9,ti4,ti47,ti38,ti49,ti25,ti23]
 refine hN3 _ ?_; try clear hN3 hD3 N3
 refine WC_condE ?_
 simp only [sS,↓sT,Nat.reduceLT,Nat.reduceEqDiff,↓stepC_bool]
 refine ⟨fun hb4 => ?_,fun hb4 => ?_⟩
 ·refine WC_seqR (fun N5 hN5 hD5 => ?_)
  simp only [sS,↓sT,Nat.reduceLT,Nat.reduceEqDiff,↓sO,↓WOps_g,sG,opV,loudV,cellsOf,strOp,evL,Nat.reduceAdd,Int.reduceBEq,Int.reduceBNe,or_self,not_false_eq_true,hyl,hip,hve,hle,hce,vec_cells,all_ints,(vec_load hv),tag_cells,tag_isC,cat_at,cat_set,wr15,op_isC,op_full,op_len,op_cells,opCells,icell_int,icell_str,icell_bool,dropsW_isC,Bool.and_self,load15,load_int,tag_load2,tag_load,tag_fold,opZ_w,List.drop_zero,List.all_cons,List.all_nil,gt_iff_lt,ge_iff_le,List.mem_singleton,List.mem_cons,ti3,ti2,ti9,ti4,ti47,ti38,ti49,ti25,ti23,hb4]
  refine hN5 _ ?_; try clear hN5 hD5 N5
  refine WC_ret ?_; (try simp only [Exit.after,Exit.out]); refine Kend_ret (by simp only [resOf,resL,resV,mkS_get,slots_get,cellsOf,load_str,load_bool,load_int,load_slice,ti3,sS,↓sT,Nat.reduceLT,Nat.reduceEqDiff]; rfl) (by first | rfl | (simp only [load_str,load_bool,load_int,load_slice,ti3]; done) | (simp only [load_str,load_bool,load_int,load_slice,ti3,okV,ok1,okC,okP,List.all_cons,List.all_nil,Bool.and_true]; done)) ?_
  clear hN2 hD2 N2
  first
  | rfl
  | (cases hb4; done)
  | (exfalso
     clear hsub hip hyl hyb hyn hF hR hld
     rcases Int.lt_or_le (atL m a c) 0 with hi0 | hi0
     · have e := hfl.1 hi0
       have hz := sameO_refl opZ
       simp_all <;> omega
     · obtain ⟨q,hq,e⟩ := hfl.2 hi0
       have hqp : q = p := by rw [hpl hi0] at hq; exact (Option.some.inj hq).symm
       subst hqp
       have hz : sameO q.own q = true := by rw [sameO_own,sameO_refl]
       simp_all <;> omega)
 ·refine WC_skip ?_
  refine hN2 _ ?_; try clear hN2 hD2 N2
  refine WC_seqN (fun N6 hN6 hD6 => ?_)
  refine WC_seqR (fun N7 hN7 hD7 => ?_)
  simp only [sS,↓sT,Nat.reduceLT,Nat.reduceEqDiff,↓sO,↓WOps_g,sG,opV,loudV,cellsOf,strOp,evL,Nat.reduceAdd,Int.reduceBEq,Int.reduceBNe,or_self,not_false_eq_true,hyl,hip,hve,hle,hce,vec_cells,all_ints,(vec_load hv),tag_cells,tag_isC,cat_at,cat_set,wr15,op_isC,op_full,op_len,op_cells,opCells,icell_int,icell_str,icell_bool,dropsW_isC,Bool.and_self,load15,load_int,tag_load2,tag_load,tag_fold,opZ_w,List.drop_zero,List.all_cons,List.all_nil,gt_iff_lt,ge_iff_le,List.mem_singleton,List.mem_cons,ti3,ti2,ti9,ti4,ti47,ti38,ti49,ti25,ti23,hb4]
  refine WOps_callP (c_punnet_punnetref22_HeavyOps l x hx 60 hl) (by simp only [ev_func]) (by simp only [evL,sS,↓sT,Nat.reduceLT,Nat.reduceEqDiff]; rfl) (by first | rfl | (simp only [List.map,vec_bare,tag_bare,hx.bare,op_bare,hyb]; done) | (simp only [List.map,vec_bare,tag_bare,hx.bare,op_bare,hyb]; exact rfl)) (by first | rfl | simp [vec_noP,tag_noP,hx.noP,noP_int,op_noP,hyn]) (by first | rfl | simp [vec_noP,tag_noP,hx.noP,noP_int,op_noP,hyn]) (by first | exact op_bare _ | exact vec_bare _ | rfl) ?_
  simp only [sS,↓sT,Nat.reduceLT,Nat.reduceEqDiff,↓sO,↓WOps_g,sG,opV,loudV,cellsOf,strOp,evL,Nat.reduceAdd,Int.reduceBEq,Int.reduceBNe,or_self,not_false_eq_true,hyl,hip,hve,hle,hce,vec_cells,all_ints,(vec_load hv),tag_cells,tag_isC,cat_at,cat_set,wr15,op_isC,op_full,op_len,op_cells,opCells,icell_int,icell_str,icell_bool,dropsW_isC,Bool.and_self,load15,load_int,tag_load2,tag_load,tag_fold,opZ_w,List.drop_zero,List.all_cons,List.all_nil,gt_iff_lt,ge_iff_le,List.mem_singleton,List.mem_cons,ti3,ti2,ti9,ti4,ti47,ti38,ti49,ti25,ti23,hb4]
  refine hN7 _ ?_; try clear hN7 hD7 N7
  refine WC_condE ?_
  simp only [sS,↓sT,Nat.reduceLT,Nat.reduceEqDiff,↓stepC_bool,hb4,Int.reduceBEq,Int.reduceBNe,beq_self_eq_true,bne_self_eq_false]
  refine ⟨fun hb8 => ?_,fun hb8 => ?_⟩
  ·refine WC_seqR (fun N9 hN9 hD9 => ?_)
   simp only [sS,↓sT,Nat.reduceLT,Nat.reduceEqDiff,↓sO,↓WOps_g,sG,opV,loudV,cellsOf,strOp,evL,Nat.reduceAdd,Int.reduceBEq,Int.reduceBNe,or_self,not_false_eq_true,hyl,hip,hve,hle,hce,vec_cells,all_ints,(vec_load hv),tag_cells,tag_isC,cat_at,cat_set,wr15,op_isC,op_full,op_len,op_cells,opCells,icell_int,icell_str,icell_bool,dropsW_isC,Bool.and_self,load15,load_int,tag_load2,tag_load,tag_fold,opZ_w,List.drop_zero,List.all_cons,List.all_nil,gt_iff_lt,ge_iff_le,List.mem_singleton,List.mem_cons,ti3,ti2,ti9,ti4,ti47,ti38,ti49,ti25,ti23,hb4,hb8]
   refine hN9 _ ?_; try clear hN9 hD9 N9
   refine WC_ret ?_; (try simp only [Exit.after,Exit.out]); refine Kend_ret (by simp only [resOf,resL,resV,mkS_get,slots_get,cellsOf,load_str,load_bool,load_int,load_slice,ti3,sS,↓sT,Nat.reduceLT,Nat.reduceEqDiff]; rfl) (by first | rfl | (simp only [load_str,load_bool,load_int,load_slice,ti3]; done) | (simp only [load_str,load_bool,load_int,load_slice,ti3,okV,ok1,okC,okP,List.all_cons,List.all_nil,Bool.and_true]; done)) ?_
   clear hN6 hD6 N6
   first
   | rfl
   | (cases hb4; done)
   | (exfalso
      clear hsub hip hyl hyb hyn hF hR hld
      rcases Int.lt_or_le (atL m a c) 0 with hi0 | hi0
      · have e := hfl.1 hi0
        have hz := sameO_refl opZ
        simp_all <;> omega
      · obtain ⟨q,hq,e⟩ := hfl.2 hi0
        have hqp : q = p := by rw [hpl hi0] at hq; exact (Option.some.inj hq).symm
        subst hqp
        have hz : sameO q.own q = true := by rw [sameO_own,sameO_refl]
        simp_all <;> omega)
  ·refine WC_skip ?_
   refine hN6 _ ?_; try clear hN6 hD6 N6
   refine WC_seqR (fun N10 hN10 hD10 => ?_)
   simp only [sS,↓sT,Nat.reduceLT,Nat.reduceEqDiff,↓sO,↓WOps_g,sG,opV,loudV,cellsOf,strOp,evL,Nat.reduceAdd,Int.reduceBEq,Int.reduceBNe,or_self,not_false_eq_true,hyl,hip,hve,hle,hce,vec_cells,all_ints,(vec_load hv),tag_cells,tag_isC,cat_at,cat_set,wr15,op_isC,op_full,op_len,op_cells,opCells,icell_int,icell_str,icell_bool,dropsW_isC,Bool.and_self,load15,load_int,tag_load2,tag_load,tag_fold,opZ_w,List.drop_zero,List.all_cons,List.all_nil,gt_iff_lt,ge_iff_le,List.mem_singleton,List.mem_cons,ti3,ti2,ti9,ti4,ti47,ti38,ti49,ti25,ti23,hb4,hb8]
   obtain ⟨hl60,hld⟩ := heavy_ok hb8
   refine WOps_fill hx (by omega) hld (by simp only [ev_func]) (by first | (simp only [evL,sS,↓sT,Nat.reduceLT,Nat.reduceEqDiff]; done) | (simp only [evL,sS,↓sT,Nat.reduceLT,Nat.reduceEqDiff]; rfl)) (fun Ls m y ds n' hF hnn => ?_)
   simp only [sS,↓sT,Nat.reduceLT,Nat.reduceEqDiff,↓sO,↓WOps_g,sG,opV,loudV,cellsOf,strOp,evL,Nat.reduceAdd,Int.reduceBEq,Int.reduceBNe,or_self,not_false_eq_true,hyl,hip,hve,hle,hce,vec_cells,all_ints,(vec_load hv),tag_cells,tag_isC,cat_at,cat_set,wr15,op_isC,op_full,op_len,op_cells,opCells,icell_int,icell_str,icell_bool,dropsW_isC,Bool.and_self,load15,load_int,tag_load2,tag_load,tag_fold,opZ_w,List.drop_zero,List.all_cons,List.all_nil,gt_iff_lt,ge_iff_le,List.mem_singleton,List.mem_cons,ti3,ti2,ti9,ti4,ti47,ti38,ti49,ti25,ti23,hb4,hb8]
   refine hN10 _ ?_; try clear hN10 hD10 N10
   refine WC_seqN (fun N11 hN11 hD11 => ?_)
   refine WC_seqR (fun N12 hN12 hD12 => ?_)
   simp only [sS,↓sT,Nat.reduceLT,Nat.reduceEqDiff,↓sO,↓WOps_g,sG,opV,loudV,cellsOf,strOp,evL,Nat.reduceAdd,Int.reduceBEq,Int.reduceBNe,or_self,not_false_eq_true,hyl,hip,hve,hle,hce,vec_cells,all_ints,(vec_load hv),tag_cells,tag_isC,cat_at,cat_set,wr15,op_isC,op_full,op_len,op_cells,opCells,icell_int,icell_str,icell_bool,dropsW_isC,Bool.and_self,load15,load_int,tag_load2,tag_load,tag_fold,opZ_w,List.drop_zero,List.all_cons,List.all_nil,gt_iff_lt,ge_iff_le,List.mem_singleton,List.mem_cons,ti3,ti2,ti9,ti4,ti47,ti38,ti49,ti25,ti23,hb4,hb8]
   refine hN12 _ ?_; try clear hN12 hD12 N12
   refine WC_condE ?_
   simp only [sS,↓sT,Nat.reduceLT,Nat.reduceEqDiff,↓stepC_bool,hb4,hb8,Int.reduceBEq,Int.reduceBNe,beq_self_eq_true,bne_self_eq_false]
   refine ⟨fun hb13 => ?_,fun hb13 => ?_⟩
   ·exact absurd hb13 (by simp)
   ·refine WC_skip ?_
    refine hN11 _ ?_; try clear hN11 hD11 N11
    refine WC_seqR (fun N14 hN14 hD14 => ?_)
    simp only [sS,↓sT,Nat.reduceLT,Nat.reduceEqDiff,↓sO,↓WOps_g,sG,opV,loudV,cellsOf,strOp,evL,Nat.reduceAdd,Int.reduceBEq,Int.reduceBNe,ti25,ti49,or_self,not_false_eq_true,hyl,hip,hve,hle,hce,vec_cells,all_ints,(vec_load hv),tag_cells,tag_isC,cat_at,cat_set,wr15,op_isC,op_full,op_len,op_cells,opCells,icell_int,icell_str,icell_bool,dropsW_isC,Bool.and_self,load15,load_int,tag_load2,tag_load,tag_fold,opZ_w,List.drop_zero,List.all_cons,List.all_nil,gt_iff_lt,ge_iff_le,List.mem_singleton,List.mem_cons,ti3,ti2,ti9,ti4,ti47,ti38,ti23,hb4,hb8,hb13]
    have hyb := hF.y.bare
    have hyn := hF.y.noP
    have hyl := hF.y.len
    have hR := hF.c.rel
    have hm60 := hF.n
    have hfl := find_law hR a c
    have hfd := find_drops hF.p hF.d a c
    obtain ⟨p,hp⟩ : ∃ p,m.getD (atL m a c).toNat opZ = p := ⟨_,rfl⟩
    have hpl : 0 ≤ atL m a c → m[(atL m a c).toNat]? = some p := fun h => by
      obtain ⟨q,hq,_⟩ := atL_get h
      rw [← hp,List.getD,hq]; rfl
    have hip : decide (0 ≤ atL m a c) = true → indexAddrV Try.prog 52 y (.int .i64 (atL m a c)) = some (.rptr (opCells p)) := fun h => by
      have h := of_decide_eq_true h
      have := hF.y.ia (hpl h)
      rwa [show (((atL m a c).toNat : Nat) : Int) = atL m a c from by omega] at this
    refine WOps_findB (b := 2) (cs := ds) hF.p hF.t hF.d (by simp only [ev_func]) (by first | (simp only [evL,sS,↓sT,Nat.reduceLT,Nat.reduceEqDiff]; done) | (simp only [evL,sS,↓sT,Nat.reduceLT,Nat.reduceEqDiff]; rfl)) rfl (fun ow1 n1 hsub => ?_)
    simp only [sS,↓sT,Nat.reduceLT,Nat.reduceEqDiff,↓sO,↓WOps_g,sG,opV,loudV,cellsOf,strOp,evL,Nat.reduceAdd,Int.reduceBEq,Int.reduceBNe,ti25,ti49,or_self,not_false_eq_true,hyl,hip,hve,hle,hce,vec_cells,all_ints,(vec_load hv),tag_cells,tag_isC,cat_at,cat_set,wr15,op_isC,op_full,op_len,op_cells,opCells,icell_int,icell_str,icell_bool,dropsW_isC,Bool.and_self,load15,load_int,tag_load2,tag_load,tag_fold,opZ_w,List.drop_zero,List.all_cons,List.all_nil,gt_iff_lt,ge_iff_le,List.mem_singleton,List.mem_cons,ti3,ti2,ti9,ti4,ti47,ti38,ti23,hb4,hb8,hb13]
    refine hN14 _ ?_; try clear hN14 hD14 N14
    refine WC_seqR (fun N15 hN15 hD15 => ?_)
    simp only [sS,↓sT,Nat.reduceLT,Nat.reduceEqDiff,↓sO,↓WOps_g,sG,opV,loudV,cellsOf,strOp,evL,Nat.reduceAdd,Int.reduceBEq,Int.reduceBNe,ti25,or_self,not_false_eq_true,hyl,hip,hve,hle,hce,vec_cells,all_ints,(vec_load hv),tag_cells,tag_isC,cat_at,cat_set,wr15,op_isC,op_full,op_len,op_cells,opCells,icell_int,icell_str,icell_bool,dropsW_isC,Bool.and_self,load15,load_int,tag_load2,tag_load,tag_fold,opZ_w,List.drop_zero,List.all_cons,List.all_nil,gt_iff_lt,ge_iff_le,List.mem_singleton,List.mem_cons,ti3,ti2,ti9,ti4,ti47,ti38,ti49,ti23,hb4,hb8,hb13]
    refine WOps_callP (c_punnet_punnetref26_At m y hF.y a c (by have := hF.n; unfold maxLen; omega)) (by simp only [ev_func]) (by simp only [evL,sS,↓sT,Nat.reduceLT,Nat.reduceEqDiff]; rfl) (by first | rfl | (simp only [List.map,vec_bare,tag_bare,hx.bare,op_bare,hyb]; done) | (simp only [List.map,vec_bare,tag_bare,hx.bare,op_bare,hyb]; exact rfl)) (by first | rfl | simp [vec_noP,tag_noP,hx.noP,noP_int,op_noP,hyn]) (by first | rfl | simp [vec_noP,tag_noP,hx.noP,noP_int,op_noP,hyn]) (by first | exact op_bare _ | exact vec_bare _ | rfl) ?_
    simp only [sS,↓sT,Nat.reduceLT,Nat.reduceEqDiff,↓sO,↓WOps_g,sG,opV,loudV,cellsOf,strOp,evL,Nat.reduceAdd,Int.reduceBEq,Int.reduceBNe,ti25,or_self,not_false_eq_true,hyl,hip,hve,hle,hce,vec_cells,all_ints,(vec_load hv),tag_cells,tag_isC,cat_at,cat_set,wr15,op_isC,op_full,op_len,op_cells,opCells,icell_int,icell_str,icell_bool,dropsW_isC,Bool.and_self,load15,load_int,tag_load2,tag_load,tag_fold,opZ_w,List.drop_zero,List.all_cons,List.all_nil,gt_iff_lt,ge_iff_le,List.mem_singleton,List.mem_cons,ti3,ti2,ti9,ti4,ti47,ti38,ti49,ti23,hb4,hb8,hb13]
    refine hN15 _ ?_; try clear hN15 hD15 N15
    refine WC_seqN (fun N16 hN16 hD16 => ?_)
    refine WC_seqD mixed [2] [0,0,0,0,0,0,0,0,0,0,0,0,0,0,0,0,0,0,0,0,0,0,0,0,0,0,0,0,0] (by decide +kernel) (fun N17 hN17 hD17 => ?_)
    simp only [sS,↓sT,Nat.reduceLT,Nat.reduceEqDiff,↓sD,↓D_g,memOk,lets0,lets1,List.not_mem_nil,not_false_eq_true,true_and,and_true,sG,opV,loudV,cellsOf,strOp,evL,Nat.reduceAdd,Int.reduceBEq,Int.reduceBNe,ti49,buildV,evParts,V.isCell,List.all_cons,List.all_nil,Bool.and_self,if_true,placesOf,fillV,List.getElem?_cons_zero,List.getElem?_cons_succ,List.length_cons,List.length_nil,Nat.zero_add,ne_eq,not_true_eq_false,false_or,gt_iff_lt,if_false,wrL,Option.map_some,List.set_cons_zero,List.set_cons_succ,ti52,or_self,hyl,hip,hve,hle,hce,vec_cells,all_ints,(vec_load hv),tag_cells,tag_isC,cat_at,cat_set,wr15,op_isC,op_full,op_len,op_cells,opCells,icell_int,icell_str,icell_bool,dropsW_isC,load15,load_int,tag_load2,tag_load,tag_fold,opZ_w,List.drop_zero,ge_iff_le,List.mem_singleton,List.mem_cons,ti3,ti2,ti9,ti4,ti47,ti38,ti25,ti23,hb4,hb8,hb13]
    refine stepB_T (fun hg17_2 => ?_) (fun hg17_2 => ?_)
    ·simp only [sS,↓sT,Nat.reduceLT,Nat.reduceEqDiff,↓sD,↓D_g,memOk,lets0,lets1,List.not_mem_nil,not_false_eq_true,true_and,and_true,sG,opV,loudV,cellsOf,strOp,evL,Nat.reduceAdd,Int.reduceBEq,Int.reduceBNe,ti49,buildV,evParts,V.isCell,List.all_cons,List.all_nil,Bool.and_self,if_true,placesOf,fillV,List.getElem?_cons_zero,List.getElem?_cons_succ,List.length_cons,List.length_nil,Nat.zero_add,ne_eq,not_true_eq_false,false_or,gt_iff_lt,if_false,wrL,Option.map_some,List.set_cons_zero,List.set_cons_succ,ti52,or_self,hyl,hip,hve,hle,hce,vec_cells,all_ints,(vec_load hv),tag_cells,tag_isC,cat_at,cat_set,wr15,op_isC,op_full,op_len,op_cells,opCells,icell_int,icell_str,icell_bool,dropsW_isC,load15,load_int,tag_load2,tag_load,tag_fold,opZ_w,List.drop_zero,ge_iff_le,List.mem_singleton,List.mem_cons,ti3,ti2,ti9,ti4,ti47,ti38,ti25,ti23,hb4,hb8,hb13,hg17_2]
     refine stepB_F (fun hg17_5 => ?_) (fun hg17_5 => ?_)
     ·simp only [sS,↓sT,Nat.reduceLT,Nat.reduceEqDiff,↓sD,↓D_g,memOk,lets0,lets1,List.not_mem_nil,not_false_eq_true,true_and,and_true,sG,opV,loudV,cellsOf,strOp,evL,Nat.reduceAdd,Int.reduceBEq,Int.reduceBNe,ti49,buildV,evParts,V.isCell,List.all_cons,List.all_nil,Bool.and_self,if_true,placesOf,fillV,List.getElem?_cons_zero,List.getElem?_cons_succ,List.length_cons,List.length_nil,Nat.zero_add,ne_eq,not_true_eq_false,false_or,gt_iff_lt,if_false,wrL,Option.map_some,List.set_cons_zero,List.set_cons_succ,ti52,or_self,hyl,hip,hve,hle,hce,vec_cells,all_ints,(vec_load hv),tag_cells,tag_isC,cat_at,cat_set,wr15,op_isC,op_full,op_len,op_cells,opCells,icell_int,icell_str,icell_bool,dropsW_isC,load15,load_int,tag_load2,tag_load,tag_fold,opZ_w,List.drop_zero,ge_iff_le,List.mem_singleton,List.mem_cons,ti3,ti2,ti9,ti4,ti47,ti38,ti25,ti23,hb4,hb8,hb13,hg17_2,hg17_5]
      refine D_callP (c_punnet_punnetref20_Same (findS Ls a c).1 opZ (by show (findS Ls a c).1.drops.l.length ≤ _; unfold maxApp at hfd; omega)) (by simp only [ev_func]) (by simp only [evL,sS,↓sT,Nat.reduceLT,Nat.reduceEqDiff]; rfl) (by first | rfl | (simp only [List.map,vec_bare,tag_bare,hx.bare,op_bare,hyb]; done) | (simp only [List.map,vec_bare,tag_bare,hx.bare,op_bare,hyb]; exact rfl)) (by first | rfl | simp [vec_noP,tag_noP,hx.noP,noP_int,op_noP,hyn]) (by first | rfl | simp [vec_noP,tag_noP,hx.noP,noP_int,op_noP,hyn]) (by first | exact op_bare _ | exact vec_bare _ | rfl) ?_
      simp only [sS,↓sT,Nat.reduceLT,Nat.reduceEqDiff,↓sD,↓D_g,memOk,lets0,lets1,List.not_mem_nil,not_false_eq_true,true_and,and_true,sG,opV,loudV,cellsOf,strOp,evL,Nat.reduceAdd,Int.reduceBEq,Int.reduceBNe,ti49,buildV,evParts,V.isCell,List.all_cons,List.all_nil,Bool.and_self,if_true,placesOf,fillV,List.getElem?_cons_zero,List.getElem?_cons_succ,List.length_cons,List.length_nil,Nat.zero_add,ne_eq,not_true_eq_false,false_or,gt_iff_lt,if_false,wrL,Option.map_some,List.set_cons_zero,List.set_cons_succ,ti52,or_self,hyl,hip,hve,hle,hce,vec_cells,all_ints,(vec_load hv),tag_cells,tag_isC,cat_at,cat_set,wr15,op_isC,op_full,op_len,op_cells,opCells,icell_int,icell_str,icell_bool,dropsW_isC,load15,load_int,tag_load2,tag_load,tag_fold,opZ_w,List.drop_zero,ge_iff_le,List.mem_singleton,List.mem_cons,ti3,ti2,ti9,ti4,ti47,ti38,ti25,ti23,hb4,hb8,hb13,hg17_2,hg17_5]
      refine stepB_F (fun hg17_12 => ?_) (fun hg17_12 => ?_)
      ·simp only [sS,↓sT,Nat.reduceLT,Nat.reduceEqDiff,↓sD,↓D_g,memOk,lets0,lets1,List.not_mem_nil,not_false_eq_true,true_and,and_true,sG,opV,loudV,cellsOf,strOp,evL,Nat.reduceAdd,Int.reduceBEq,Int.reduceBNe,ti49,buildV,evParts,V.isCell,List.all_cons,List.all_nil,Bool.and_self,if_true,placesOf,fillV,List.getElem?_cons_zero,List.getElem?_cons_succ,List.length_cons,List.length_nil,Nat.zero_add,ne_eq,not_true_eq_false,false_or,gt_iff_lt,if_false,wrL,Option.map_some,List.set_cons_zero,List.set_cons_succ,ti52,or_self,hyl,hip,hve,hle,hce,vec_cells,all_ints,(vec_load hv),tag_cells,tag_isC,cat_at,cat_set,wr15,op_isC,op_full,op_len,op_cells,opCells,icell_int,icell_str,icell_bool,dropsW_isC,load15,load_int,tag_load2,tag_load,tag_fold,opZ_w,List.drop_zero,ge_iff_le,List.mem_singleton,List.mem_cons,ti3,ti2,ti9,ti4,ti47,ti38,ti25,ti23,hb4,hb8,hb13,hg17_2,hg17_5,hg17_12]
       refine stepB_T (fun hg17_15 => ?_) (fun hg17_15 => ?_)
       ·simp only [sS,↓sT,Nat.reduceLT,Nat.reduceEqDiff,↓sD,↓D_g,memOk,lets0,lets1,List.not_mem_nil,not_false_eq_true,true_and,and_true,sG,opV,loudV,cellsOf,strOp,evL,Nat.reduceAdd,Int.reduceBEq,Int.reduceBNe,ti49,buildV,evParts,V.isCell,List.all_cons,List.all_nil,Bool.and_self,if_true,placesOf,fillV,List.getElem?_cons_zero,List.getElem?_cons_succ,List.length_cons,List.length_nil,Nat.zero_add,ne_eq,not_true_eq_false,false_or,gt_iff_lt,if_false,wrL,Option.map_some,List.set_cons_zero,List.set_cons_succ,ti52,or_self,hyl,hip,hve,hle,hce,vec_cells,all_ints,(vec_load hv),tag_cells,tag_isC,cat_at,cat_set,wr15,op_isC,op_full,op_len,op_cells,opCells,icell_int,icell_str,icell_bool,dropsW_isC,load15,load_int,tag_load2,tag_load,tag_fold,opZ_w,List.drop_zero,ge_iff_le,List.mem_singleton,List.mem_cons,ti3,ti2,ti9,ti4,ti47,ti38,ti25,ti23,hb4,hb8,hb13,hg17_2,hg17_5,hg17_12,hg17_15]
        refine stepB_F (fun hg17_18 => ?_) (fun hg17_18 => ?_)
        ·simp only [sS,↓sT,Nat.reduceLT,Nat.reduceEqDiff,↓sD,↓D_g,memOk,lets0,lets1,List.not_mem_nil,not_false_eq_true,true_and,and_true,sG,opV,loudV,cellsOf,strOp,evL,Nat.reduceAdd,Int.reduceBEq,Int.reduceBNe,ti49,buildV,evParts,V.isCell,List.all_cons,List.all_nil,Bool.and_self,if_true,placesOf,fillV,List.getElem?_cons_zero,List.getElem?_cons_succ,List.length_cons,List.length_nil,Nat.zero_add,ne_eq,not_true_eq_false,false_or,gt_iff_lt,if_false,wrL,Option.map_some,List.set_cons_zero,List.set_cons_succ,ti52,or_self,hyl,hip,hve,hle,hce,vec_cells,all_ints,(vec_load hv),tag_cells,tag_isC,cat_at,cat_set,wr15,op_isC,op_full,op_len,op_cells,opCells,icell_int,icell_str,icell_bool,dropsW_isC,load15,load_int,tag_load2,tag_load,tag_fold,opZ_w,List.drop_zero,ge_iff_le,List.mem_singleton,List.mem_cons,ti3,ti2,ti9,ti4,ti47,ti38,ti25,ti23,hb4,hb8,hb13,hg17_2,hg17_5,hg17_12,hg17_15,hg17_18]
         refine D_callP (c_punnet_punnetref20_Same (findS Ls a c).1 p (by show (findS Ls a c).1.drops.l.length ≤ _; unfold maxApp at hfd; omega)) (by simp only [ev_func]) (by simp only [evL,sS,↓sT,Nat.reduceLT,Nat.reduceEqDiff]; rfl) (by first | rfl | (simp only [List.map,vec_bare,tag_bare,hx.bare,op_bare,hyb]; done) | (simp only [List.map,vec_bare,tag_bare,hx.bare,op_bare,hyb]; exact rfl)) (by first | rfl | simp [vec_noP,tag_noP,hx.noP,noP_int,op_noP,hyn]) (by first | rfl | simp [vec_noP,tag_noP,hx.noP,noP_int,op_noP,hyn]) (by first | exact op_bare _ | exact vec_bare _ | rfl) ?_
         simp only [sS,↓sT,Nat.reduceLT,Nat.reduceEqDiff,↓sD,↓D_g,memOk,lets0,lets1,List.not_mem_nil,not_false_eq_true,true_and,and_true,sG,opV,loudV,cellsOf,strOp,evL,Nat.reduceAdd,Int.reduceBEq,Int.reduceBNe,ti49,buildV,evParts,V.isCell,List.all_cons,List.all_nil,Bool.and_self,if_true,placesOf,fillV,List.getElem?_cons_zero,List.getElem?_cons_succ,List.length_cons,List.length_nil,Nat.zero_add,ne_eq,not_true_eq_false,false_or,gt_iff_lt,if_false,wrL,Option.map_some,List.set_cons_zero,List.set_cons_succ,ti52,or_self,hyl,hip,hve,hle,hce,vec_cells,all_ints,(vec_load hv),tag_cells,tag_isC,cat_at,cat_set,wr15,op_isC,op_full,op_len,op_cells,opCells,icell_int,icell_str,icell_bool,dropsW_isC,load15,load_int,tag_load2,tag_load,tag_fold,opZ_w,List.drop_zero,ge_iff_le,List.mem_singleton,List.mem_cons,ti3,ti2,ti9,ti4,ti47,ti38,ti25,ti23,hb4,hb8,hb13,hg17_2,hg17_5,hg17_12,hg17_15,hg17_18]
         refine hN17 _ ?_; try clear hN17 hD17 N17
         refine WC_condE ?_
         simp only [sS,↓sT,Nat.reduceLT,Nat.reduceEqDiff,↓stepC_bool,hb4,hb8,hb13,hg17_2,hg17_5,hg17_12,hg17_15,hg17_18,Int.reduceBEq,Int.reduceBNe,beq_self_eq_true,bne_self_eq_false]
         refine ⟨fun hb18 => ?_,fun hb18 => ?_⟩
         ·refine WC_seqR (fun N19 hN19 hD19 => ?_)
          simp only [sS,↓sT,Nat.reduceLT,Nat.reduceEqDiff,↓sO,↓WOps_g,sG,opV,loudV,cellsOf,strOp,evL,Nat.reduceAdd,Int.reduceBEq,Int.reduceBNe,or_self,not_false_eq_true,hyl,hip,hve,hle,hce,vec_cells,all_ints,(vec_load hv),tag_cells,tag_isC,cat_at,cat_set,wr15,op_isC,op_full,op_len,op_cells,opCells,icell_int,icell_str,icell_bool,dropsW_isC,Bool.and_self,load15,load_int,tag_load2,tag_load,tag_fold,opZ_w,List.drop_zero,List.all_cons,List.all_nil,gt_iff_lt,ge_iff_le,List.mem_singleton,List.mem_cons,ti3,ti2,ti9,ti4,ti47,ti38,ti49,ti25,ti23,hb4,hb8,hb13,hg17_2,hg17_5,hg17_12,hg17_15,hg17_18,hb18]
          refine hN19 _ ?_; try clear hN19 hD19 N19
          refine WC_ret ?_; (try simp only [Exit.after,Exit.out]); refine Kend_ret (by simp only [resOf,resL,resV,mkS_get,slots_get,cellsOf,load_str,load_bool,load_int,load_slice,ti3,sS,↓sT,Nat.reduceLT,Nat.reduceEqDiff]; rfl) (by first | rfl | (simp only [load_str,load_bool,load_int,load_slice,ti3]; done) | (simp only [load_str,load_bool,load_int,load_slice,ti3,okV,ok1,okC,okP,List.all_cons,List.all_nil,Bool.and_true]; done)) ?_
          clear hN16 hD16 N16
          first
          | rfl
          | (cases hb4; done)
          | (exfalso
             clear hsub hip hyl hyb hyn hF hR hld
             rcases Int.lt_or_le (atL m a c) 0 with hi0 | hi0
             · have e := hfl.1 hi0
               have hz := sameO_refl opZ
               simp_all <;> omega
             · obtain ⟨q,hq,e⟩ := hfl.2 hi0
               have hqp : q = p := by rw [hpl hi0] at hq; exact (Option.some.inj hq).symm
               subst hqp
               have hz : sameO q.own q = true := by rw [sameO_own,sameO_refl]
               simp_all <;> omega)
         ·refine WC_skip ?_
          refine hN16 _ ?_; try clear hN16 hD16 N16
          refine WC_seqR (fun N20 hN20 hD20 => ?_)
          simp only [sS,↓sT,Nat.reduceLT,Nat.reduceEqDiff,↓sO,↓WOps_g,sG,opV,loudV,cellsOf,strOp,evL,Nat.reduceAdd,Int.reduceBEq,Int.reduceBNe,or_self,not_false_eq_true,hyl,hip,hve,hle,hce,vec_cells,all_ints,(vec_load hv),tag_cells,tag_isC,cat_at,cat_set,wr15,op_isC,op_full,op_len,op_cells,opCells,icell_int,icell_str,icell_bool,dropsW_isC,Bool.and_self,load15,load_int,tag_load2,tag_load,tag_fold,opZ_w,List.drop_zero,List.all_cons,List.all_nil,gt_iff_lt,ge_iff_le,List.mem_singleton,List.mem_cons,ti3,ti2,ti9,ti4,ti47,ti38,ti49,ti25,ti23,hb4,hb8,hb13,hg17_2,hg17_5,hg17_12,hg17_15,hg17_18,hb18]
          refine WOps_copyB (b := 2) hF (by simp only [ev_func]) (by first | (simp only [evL,sS,↓sT,Nat.reduceLT,Nat.reduceEqDiff]; done) | (simp only [evL,sS,↓sT,Nat.reduceLT,Nat.reduceEqDiff]; rfl)) rfl (fun ds2 ow2 n2 hP2 hT2 => ?_)
          have hlens : ∀ l ∈ Ls,l.length ≤ 400 := fun l hl => by have := len_tot hl; have := hR.tt; omega
          have hle := len_eq hR hm60
          have hve := vec_eq (a := haveL Ls) (b := haveL Ls) hF.p.bare.len hF.p.bare.len
          have cH := c_punnet_punnetref26_Have m y hF.y (by omega) (fun o ho => by obtain ⟨r1,r6,_⟩ := right_facts (hR.right o ho); exact ⟨r1,r6⟩)
          rw [← have_eq hR] at cH
          have cC := h__punnet_pool_Pool_Clock Ls ds hF.p hF.t hF.d hlens
          rw [clock_eq hF.c hm60] at cC
          have hPs : PS (sortL m) (.slice 15 ((sortL m).map opW) (m.length == 0) none) := .inr ⟨_,rfl⟩
          have hPr : PS (refSince m v most) (.slice 15 ((refSince m v most).map opW) ((refSince m v most).length == 0) none) := .inr ⟨_,rfl⟩
          have cS1 := c_punnet_punnetref20_SameOps _ _ _ _ (opsV_PS (sinceL Ls zeroV 400)) hPs (since_len _ _) (since_drops hF.d)
          rw [show sameOps (sinceL Ls zeroV 400) (sortL m) = true from by rw [ops_eq hF.c hm60,sameOps_own]] at cS1
          have cS2 := c_punnet_punnetref20_SameOps _ _ _ _ (opsV_PS (sinceL Ls zeroV 400)) (opsV_PS (sinceL Ls zeroV 400)) (since_len _ _) (since_drops hF.d)
          rw [sameOps_refl] at cS2
          have cS3 := c_punnet_punnetref20_SameOps _ _ _ _ (opsV_PS (sinceL Ls v most)) hPr (by rw [sinceL,List.length_take]; have := part_le hR v; unfold maxLen; omega) (since_drops hF.d)
          rw [show sameOps (sinceL Ls v most) (refSince m v most) = true from by rw [since_eq hF.c,sameOps_own]] at cS3
          have ob1 := (opsV_PS (sinceL Ls zeroV 400)).bare
          have ob2 := (opsV_PS (sinceL Ls v most)).bare
          have on1 := (opsV_PS (sinceL Ls zeroV 400)).noP
          have on2 := (opsV_PS (sinceL Ls v most)).noP
          clear hfl hfd hip hp hpl
          simp only [sS,↓sT,Nat.reduceLT,Nat.reduceEqDiff,↓sO,↓WOps_g,sG,opV,loudV,cellsOf,strOp,evL,Nat.reduceAdd,Int.reduceBEq,Int.reduceBNe,or_self,not_false_eq_true,hyl,hip,hve,hle,hce,vec_cells,all_ints,(vec_load hv),tag_cells,tag_isC,cat_at,cat_set,wr15,op_isC,op_full,op_len,op_cells,opCells,icell_int,icell_str,icell_bool,dropsW_isC,Bool.and_self,load15,load_int,tag_load2,tag_load,tag_fold,opZ_w,List.drop_zero,List.all_cons,List.all_nil,gt_iff_lt,ge_iff_le,List.mem_singleton,List.mem_cons,ti3,ti2,ti9,ti4,ti47,ti38,ti49,ti25,ti23,hb4,hb8,hb13,hg17_2,hg17_5,hg17_12,hg17_15,hg17_18,hb18]
          refine hN20 _ ?_; try clear hN20 hD20 N20
          refine WC_seqD mixed [2] [0,0,0,0,0,0,0,0,0,0,0,0,0,0,0,0,1,0,0,0,0,0,0,0,0,0,0,0,0,0,0,0,0,0,0,0,0,0,0,0,0,0,0,0,0] (by decide +kernel) (fun N21 hN21 hD21 => ?_)
          simp only [sS,↓sT,Nat.reduceLT,Nat.reduceEqDiff,↓sD,↓D_g,memOk,lets0,lets1,List.not_mem_nil,not_false_eq_true,true_and,and_true,sG,opV,loudV,cellsOf,strOp,evL,Nat.reduceAdd,Int.reduceBEq,Int.reduceBNe,ti23,ti52,or_self,hyl,hip,hve,hle,hce,vec_cells,all_ints,(vec_load hv),tag_cells,tag_isC,cat_at,cat_set,wr15,op_isC,op_full,op_len,op_cells,opCells,icell_int,icell_str,icell_bool,dropsW_isC,Bool.and_self,load15,load_int,tag_load2,tag_load,tag_fold,opZ_w,List.drop_zero,List.all_cons,List.all_nil,gt_iff_lt,ge_iff_le,List.mem_singleton,List.mem_cons,ti3,ti2,ti9,ti4,ti47,ti38,ti49,ti25,hb4,hb8,hb13,hg17_2,hg17_5,hg17_12,hg17_15,hg17_18,hb18]
          refine D_callB (b := 2) (ys := []) (h__punnet_pool_Pool_Ops Ls ds hF.p hF.d hlens) hF.p hF.t (fun y hy => absurd hy List.not_mem_nil) (opsV_facts _).1 (opsV_facts _).2.1 (by simp [limOf,Lim.lets]) (by simp only [ev_func]) (by first | (simp only [evL,sS,↓sT,Nat.reduceLT,Nat.reduceEqDiff]; done) | (simp only [evL,sS,↓sT,Nat.reduceLT,Nat.reduceEqDiff]; rfl)) rfl (fun ow3 n3 hsub3 => ?_)
          simp only [sS,↓sT,Nat.reduceLT,Nat.reduceEqDiff,↓sD,↓D_g,memOk,lets0,lets1,List.not_mem_nil,not_false_eq_true,true_and,and_true,sG,opV,loudV,cellsOf,strOp,evL,Nat.reduceAdd,Int.reduceBEq,Int.reduceBNe,ti23,ti52,or_self,hyl,hip,hve,hle,hce,vec_cells,all_ints,(vec_load hv),tag_cells,tag_isC,cat_at,cat_set,wr15,op_isC,op_full,op_len,op_cells,opCells,icell_int,icell_str,icell_bool,dropsW_isC,Bool.and_self,load15,load_int,tag_load2,tag_load,tag_fold,opZ_w,List.drop_zero,List.all_cons,List.all_nil,gt_iff_lt,ge_iff_le,List.mem_singleton,List.mem_cons,ti3,ti2,ti9,ti4,ti47,ti38,ti49,ti25,hb4,hb8,hb13,hg17_2,hg17_5,hg17_12,hg17_15,hg17_18,hb18]
          refine D_callP (c_punnet_punnetref26_Sorted m y hF.y (by omega)) (by simp only [ev_func]) (by simp only [evL,sS,↓sT,Nat.reduceLT,Nat.reduceEqDiff]; rfl) (by first | rfl | (simp only [List.map,vec_bare,tag_bare,hx.bare,op_bare,hyb]; done) | (simp only [List.map,vec_bare,tag_bare,hx.bare,op_bare,hyb]; exact rfl)) (by first | rfl | simp [vec_noP,tag_noP,hx.noP,noP_int,op_noP,hyn]) (by first | rfl | simp [vec_noP,tag_noP,hx.noP,noP_int,op_noP,hyn]) (by first | exact op_bare _ | exact vec_bare _ | rfl) ?_
          simp only [sS,↓sT,Nat.reduceLT,Nat.reduceEqDiff,↓sD,↓D_g,memOk,lets0,lets1,List.not_mem_nil,not_false_eq_true,true_and,and_true,sG,opV,loudV,cellsOf,strOp,evL,Nat.reduceAdd,Int.reduceBEq,Int.reduceBNe,ti23,ti52,or_self,hyl,hip,hve,hle,hce,vec_cells,all_ints,(vec_load hv),tag_cells,tag_isC,cat_at,cat_set,wr15,op_isC,op_full,op_len,op_cells,opCells,icell_int,icell_str,icell_bool,dropsW_isC,Bool.and_self,load15,load_int,tag_load2,tag_load,tag_fold,opZ_w,List.drop_zero,List.all_cons,List.all_nil,gt_iff_lt,ge_iff_le,List.mem_singleton,List.mem_cons,ti3,ti2,ti9,ti4,ti47,ti38,ti49,ti25,hb4,hb8,hb13,hg17_2,hg17_5,hg17_12,hg17_15,hg17_18,hb18]
          refine D_callP cS1 (by simp only [ev_func]) (by simp only [evL,sS,↓sT,Nat.reduceLT,Nat.reduceEqDiff]; rfl) (by first | (simp only [List.map_cons,List.map_nil,ob1]; done) | (simp only [List.map_cons,List.map_nil,ob1]; rfl)) (by simp only [List.all_cons,on1]; rfl) rfl rfl ?_
          simp only [sS,↓sT,Nat.reduceLT,Nat.reduceEqDiff,↓sD,↓D_g,memOk,lets0,lets1,List.not_mem_nil,not_false_eq_true,true_and,and_true,sG,opV,loudV,cellsOf,strOp,evL,Nat.reduceAdd,Int.reduceBEq,Int.reduceBNe,ti23,ti52,or_self,hyl,hip,hve,hle,hce,vec_cells,all_ints,(vec_load hv),tag_cells,tag_isC,cat_at,cat_set,wr15,op_isC,op_full,op_len,op_cells,opCells,icell_int,icell_str,icell_bool,dropsW_isC,Bool.and_self,load15,load_int,tag_load2,tag_load,tag_fold,opZ_w,List.drop_zero,List.all_cons,List.all_nil,gt_iff_lt,ge_iff_le,List.mem_singleton,List.mem_cons,ti3,ti2,ti9,ti4,ti47,ti38,ti49,ti25,hb4,hb8,hb13,hg17_2,hg17_5,hg17_12,hg17_15,hg17_18,hb18]
          refine D_callB (b := 4) (ys := []) (h__punnet_pool_Pool_Ops Ls ds2 hP2 hF.d hlens) hP2 hT2 (fun y hy => absurd hy List.not_mem_nil) (opsV_facts _).1 (opsV_facts _).2.1 (by simp [limOf,Lim.lets]) (by simp only [ev_func]) (by first | (simp only [evL,sS,↓sT,Nat.reduceLT,Nat.reduceEqDiff]; done) | (simp only [evL,sS,↓sT,Nat.reduceLT,Nat.reduceEqDiff]; rfl)) rfl (fun ow3 n3 hsub3 => ?_)
          simp only [sS,↓sT,Nat.reduceLT,Nat.reduceEqDiff,↓sD,↓D_g,memOk,lets0,lets1,List.not_mem_nil,not_false_eq_true,true_and,and_true,sG,opV,loudV,cellsOf,strOp,evL,Nat.reduceAdd,Int.reduceBEq,Int.reduceBNe,ti23,ti52,or_self,hyl,hip,hve,hle,hce,vec_cells,all_ints,(vec_load hv),tag_cells,tag_isC,cat_at,cat_set,wr15,op_isC,op_full,op_len,op_cells,opCells,icell_int,icell_str,icell_bool,dropsW_isC,Bool.and_self,load15,load_int,tag_load2,tag_load,tag_fold,opZ_w,List.drop_zero,List.all_cons,List.all_nil,gt_iff_lt,ge_iff_le,List.mem_singleton,List.mem_cons,ti3,ti2,ti9,ti4,ti47,ti38,ti49,ti25,hb4,hb8,hb13,hg17_2,hg17_5,hg17_12,hg17_15,hg17_18,hb18]
          refine D_callB (b := 2) (ys := []) (h__punnet_pool_Pool_Ops Ls ds hF.p hF.d hlens) hF.p hF.t (fun y hy => absurd hy List.not_mem_nil) (opsV_facts _).1 (opsV_facts _).2.1 (by simp [limOf,Lim.lets]) (by simp only [ev_func]) (by first | (simp only [evL,sS,↓sT,Nat.reduceLT,Nat.reduceEqDiff]; done) | (simp only [evL,sS,↓sT,Nat.reduceLT,Nat.reduceEqDiff]; rfl)) rfl (fun ow3 n3 hsub3 => ?_)
          simp only [sS,↓sT,Nat.reduceLT,Nat.reduceEqDiff,↓sD,↓D_g,memOk,lets0,lets1,List.not_mem_nil,not_false_eq_true,true_and,and_true,sG,opV,loudV,cellsOf,strOp,evL,Nat.reduceAdd,Int.reduceBEq,Int.reduceBNe,ti23,ti52,or_self,hyl,hip,hve,hle,hce,vec_cells,all_ints,(vec_load hv),tag_cells,tag_isC,cat_at,cat_set,wr15,op_isC,op_full,op_len,op_cells,opCells,icell_int,icell_str,icell_bool,dropsW_isC,Bool.and_self,load15,load_int,tag_load2,tag_load,tag_fold,opZ_w,List.drop_zero,List.all_cons,List.all_nil,gt_iff_lt,ge_iff_le,List.mem_singleton,List.mem_cons,ti3,ti2,ti9,ti4,ti47,ti38,ti49,ti25,hb4,hb8,hb13,hg17_2,hg17_5,hg17_12,hg17_15,hg17_18,hb18]
          refine D_callP cS2 (by simp only [ev_func]) (by simp only [evL,sS,↓sT,Nat.reduceLT,Nat.reduceEqDiff]; rfl) (by first | (simp only [List.map_cons,List.map_nil,ob1]; done) | (simp only [List.map_cons,List.map_nil,ob1]; rfl)) (by simp only [List.all_cons,on1]; rfl) rfl rfl ?_
          simp only [sS,↓sT,Nat.reduceLT,Nat.reduceEqDiff,↓sD,↓D_g,memOk,lets0,lets1,List.not_mem_nil,not_false_eq_true,true_and,and_true,sG,opV,loudV,cellsOf,strOp,evL,Nat.reduceAdd,Int.reduceBEq,Int.reduceBNe,ti23,ti52,or_self,hyl,hip,hve,hle,hce,vec_cells,all_ints,(vec_load hv),tag_cells,tag_isC,cat_at,cat_set,wr15,op_isC,op_full,op_len,op_cells,opCells,icell_int,icell_str,icell_bool,dropsW_isC,Bool.and_self,load15,load_int,tag_load2,tag_load,tag_fold,opZ_w,List.drop_zero,List.all_cons,List.all_nil,gt_iff_lt,ge_iff_le,List.mem_singleton,List.mem_cons,ti3,ti2,ti9,ti4,ti47,ti38,ti49,ti25,hb4,hb8,hb13,hg17_2,hg17_5,hg17_12,hg17_15,hg17_18,hb18]
          refine D_callB (b := 2) (ys := [vecV v, .int .i64 most]) (by rw [vec_bare1L]; exact h__punnet_pool_Pool_Since Ls ds hF.p v hv most hF.d hlens) hF.p hF.t (by intro y hy; simp only [List.mem_cons,List.not_mem_nil,or_false] at hy; rcases hy with rfl | rfl; exact vec_noP v; rfl) (opsV_facts _).1 (opsV_facts _).2.1 (by simp [limOf,Lim.lets]) (by simp only [ev_func]) (by first | (simp only [evL,sS,↓sT,Nat.reduceLT,Nat.reduceEqDiff]; done) | (simp only [evL,sS,↓sT,Nat.reduceLT,Nat.reduceEqDiff]; rfl)) rfl (fun ow3 n3 hsub3 => ?_)
          simp only [sS,↓sT,Nat.reduceLT,Nat.reduceEqDiff,↓sD,↓D_g,memOk,lets0,lets1,List.not_mem_nil,not_false_eq_true,true_and,and_true,sG,opV,loudV,cellsOf,strOp,evL,Nat.reduceAdd,Int.reduceBEq,Int.reduceBNe,ti23,ti52,or_self,hyl,hip,hve,hle,hce,vec_cells,all_ints,(vec_load hv),tag_cells,tag_isC,cat_at,cat_set,wr15,op_isC,op_full,op_len,op_cells,opCells,icell_int,icell_str,icell_bool,dropsW_isC,Bool.and_self,load15,load_int,tag_load2,tag_load,tag_fold,opZ_w,List.drop_zero,List.all_cons,List.all_nil,gt_iff_lt,ge_iff_le,List.mem_singleton,List.mem_cons,ti3,ti2,ti9,ti4,ti47,ti38,ti49,ti25,hb4,hb8,hb13,hg17_2,hg17_5,hg17_12,hg17_15,hg17_18,hb18]
          refine D_callP (c_punnet_punnetref26_Since m y hF.y (by omega) v hv most) (by simp only [ev_func]) (by simp only [evL,sS,↓sT,Nat.reduceLT,Nat.reduceEqDiff]; rfl) (by first | rfl | (simp only [List.map,vec_bare,tag_bare,hx.bare,op_bare,hyb]; done) | (simp only [List.map,vec_bare,tag_bare,hx.bare,op_bare,hyb]; exact rfl)) (by first | rfl | simp [vec_noP,tag_noP,hx.noP,noP_int,op_noP,hyn]) (by first | rfl | simp [vec_noP,tag_noP,hx.noP,noP_int,op_noP,hyn]) (by first | exact op_bare _ | exact vec_bare _ | rfl) ?_
          simp only [sS,↓sT,Nat.reduceLT,Nat.reduceEqDiff,↓sD,↓D_g,memOk,lets0,lets1,List.not_mem_nil,not_false_eq_true,true_and,and_true,sG,opV,loudV,cellsOf,strOp,evL,Nat.reduceAdd,Int.reduceBEq,Int.reduceBNe,ti23,ti52,or_self,hyl,hip,hve,hle,hce,vec_cells,all_ints,(vec_load hv),tag_cells,tag_isC,cat_at,cat_set,wr15,op_isC,op_full,op_len,op_cells,opCells,icell_int,icell_str,icell_bool,dropsW_isC,Bool.and_self,load15,load_int,tag_load2,tag_load,tag_fold,opZ_w,List.drop_zero,List.all_cons,List.all_nil,gt_iff_lt,ge_iff_le,List.mem_singleton,List.mem_cons,ti3,ti2,ti9,ti4,ti47,ti38,ti49,ti25,hb4,hb8,hb13,hg17_2,hg17_5,hg17_12,hg17_15,hg17_18,hb18]
          refine D_callP cS3 (by simp only [ev_func]) (by simp only [evL,sS,↓sT,Nat.reduceLT,Nat.reduceEqDiff]; rfl) (by first | (simp only [List.map_cons,List.map_nil,ob2]; done) | (simp only [List.map_cons,List.map_nil,ob2]; rfl)) (by simp only [List.all_cons,on2]; rfl) rfl rfl ?_
          simp only [sS,↓sT,Nat.reduceLT,Nat.reduceEqDiff,↓sD,↓D_g,memOk,lets0,lets1,List.not_mem_nil,not_false_eq_true,true_and,and_true,sG,opV,loudV,cellsOf,strOp,evL,Nat.reduceAdd,Int.reduceBEq,Int.reduceBNe,ti23,ti52,or_self,hyl,hip,hve,hle,hce,vec_cells,all_ints,(vec_load hv),tag_cells,tag_isC,cat_at,cat_set,wr15,op_isC,op_full,op_len,op_cells,opCells,icell_int,icell_str,icell_bool,dropsW_isC,Bool.and_self,load15,load_int,tag_load2,tag_load,tag_fold,opZ_w,List.drop_zero,List.all_cons,List.all_nil,gt_iff_lt,ge_iff_le,List.mem_singleton,List.mem_cons,ti3,ti2,ti9,ti4,ti47,ti38,ti49,ti25,hb4,hb8,hb13,hg17_2,hg17_5,hg17_12,hg17_15,hg17_18,hb18]
          refine D_callL (xs := [.ptr 2 0]) (c_have hF.p.bare) ?_ ?_ ?_ ?_ (vec_pl _) ?_
          · omega
          · simp only [ev_func]
          · first | (simp only [evL,sS,↓sT,Nat.reduceLT,Nat.reduceEqDiff]; done) | (simp only [evL,sS,↓sT,Nat.reduceLT,Nat.reduceEqDiff]; rfl)
          · exact hF.p.lentAt (b := 2) rfl
          simp only [sS,↓sT,Nat.reduceLT,Nat.reduceEqDiff,↓sD,↓D_g,memOk,lets0,lets1,List.not_mem_nil,not_false_eq_true,true_and,and_true,sG,opV,loudV,cellsOf,strOp,evL,Nat.reduceAdd,Int.reduceBEq,Int.reduceBNe,ti23,ti52,or_self,hyl,hip,hve,hle,hce,vec_cells,all_ints,(vec_load hv),tag_cells,tag_isC,cat_at,cat_set,wr15,op_isC,op_full,op_len,op_cells,opCells,icell_int,icell_str,icell_bool,dropsW_isC,Bool.and_self,load15,load_int,tag_load2,tag_load,tag_fold,opZ_w,List.drop_zero,List.all_cons,List.all_nil,gt_iff_lt,ge_iff_le,List.mem_singleton,List.mem_cons,ti3,ti2,ti9,ti4,ti47,ti38,ti49,ti25,hb4,hb8,hb13,hg17_2,hg17_5,hg17_12,hg17_15,hg17_18,hb18]
          refine D_callP cH (by simp only [ev_func]) (by simp only [evL,sS,↓sT,Nat.reduceLT,Nat.reduceEqDiff]; rfl) (by first | rfl | (simp only [List.map,vec_bare,tag_bare,hx.bare,op_bare,hyb]; done) | (simp only [List.map,vec_bare,tag_bare,hx.bare,op_bare,hyb]; exact rfl)) (by first | rfl | simp [vec_noP,tag_noP,hx.noP,noP_int,op_noP,hyn]) (by first | rfl | simp [vec_noP,tag_noP,hx.noP,noP_int,op_noP,hyn]) (by first | exact op_bare _ | exact vec_bare _ | rfl) ?_
          simp only [sS,↓sT,Nat.reduceLT,Nat.reduceEqDiff,↓sD,↓D_g,memOk,lets0,lets1,List.not_mem_nil,not_false_eq_true,true_and,and_true,sG,opV,loudV,cellsOf,strOp,evL,Nat.reduceAdd,Int.reduceBEq,Int.reduceBNe,ti23,ti52,or_self,hyl,hip,hve,hle,hce,vec_cells,all_ints,(vec_load hv),tag_cells,tag_isC,cat_at,cat_set,wr15,op_isC,op_full,op_len,op_cells,opCells,icell_int,icell_str,icell_bool,dropsW_isC,Bool.and_self,load15,load_int,tag_load2,tag_load,tag_fold,opZ_w,List.drop_zero,List.all_cons,List.all_nil,gt_iff_lt,ge_iff_le,List.mem_singleton,List.mem_cons,ti3,ti2,ti9,ti4,ti47,ti38,ti49,ti25,hb4,hb8,hb13,hg17_2,hg17_5,hg17_12,hg17_15,hg17_18,hb18]
          refine D_callL (xs := [.ptr 2 0]) (c__punnet_pool_Pool_Len Ls (ds.map V.bareC) hF.p.bare) ?_ ?_ ?_ ?_ rfl ?_
          · omega
          · simp only [ev_func]
          · first | (simp only [evL,sS,↓sT,Nat.reduceLT,Nat.reduceEqDiff]; done) | (simp only [evL,sS,↓sT,Nat.reduceLT,Nat.reduceEqDiff]; rfl)
          · exact hF.p.lentAt (b := 2) rfl
          simp only [sS,↓sT,Nat.reduceLT,Nat.reduceEqDiff,↓sD,↓D_g,memOk,lets0,lets1,List.not_mem_nil,not_false_eq_true,true_and,and_true,sG,opV,loudV,cellsOf,strOp,evL,Nat.reduceAdd,Int.reduceBEq,Int.reduceBNe,ti23,ti52,or_self,hyl,hip,hve,hle,hce,vec_cells,all_ints,(vec_load hv),tag_cells,tag_isC,cat_at,cat_set,wr15,op_isC,op_full,op_len,op_cells,opCells,icell_int,icell_str,icell_bool,dropsW_isC,Bool.and_self,load15,load_int,tag_load2,tag_load,tag_fold,opZ_w,List.drop_zero,List.all_cons,List.all_nil,gt_iff_lt,ge_iff_le,List.mem_singleton,List.mem_cons,ti3,ti2,ti9,ti4,ti47,ti38,ti49,ti25,hb4,hb8,hb13,hg17_2,hg17_5,hg17_12,hg17_15,hg17_18,hb18]
          refine D_callB (b := 2) (ys := []) cC hF.p hF.t (fun y hy => absurd hy List.not_mem_nil) rfl rfl (by simp [limOf,Lim.lets]) (by simp only [ev_func]) (by first | (simp only [evL,sS,↓sT,Nat.reduceLT,Nat.reduceEqDiff]; done) | (simp only [evL,sS,↓sT,Nat.reduceLT,Nat.reduceEqDiff]; rfl)) rfl (fun ow3 n3 hsub3 => ?_)
          simp only [sS,↓sT,Nat.reduceLT,Nat.reduceEqDiff,↓sD,↓D_g,memOk,lets0,lets1,List.not_mem_nil,not_false_eq_true,true_and,and_true,sG,opV,loudV,cellsOf,strOp,evL,Nat.reduceAdd,Int.reduceBEq,Int.reduceBNe,ti23,ti52,or_self,hyl,hip,hve,hle,hce,vec_cells,all_ints,(vec_load hv),tag_cells,tag_isC,cat_at,cat_set,wr15,op_isC,op_full,op_len,op_cells,opCells,icell_int,icell_str,icell_bool,dropsW_isC,Bool.and_self,load15,load_int,tag_load2,tag_load,tag_fold,opZ_w,List.drop_zero,List.all_cons,List.all_nil,gt_iff_lt,ge_iff_le,List.mem_singleton,List.mem_cons,ti3,ti2,ti9,ti4,ti47,ti38,ti49,ti25,hb4,hb8,hb13,hg17_2,hg17_5,hg17_12,hg17_15,hg17_18,hb18]
          refine D_callP (c_punnet_punnetref26_Clock m y hF.y (by omega)) (by simp only [ev_func]) (by simp only [evL,sS,↓sT,Nat.reduceLT,Nat.reduceEqDiff]; rfl) (by first | rfl | (simp only [List.map,vec_bare,tag_bare,hx.bare,op_bare,hyb]; done) | (simp only [List.map,vec_bare,tag_bare,hx.bare,op_bare,hyb]; exact rfl)) (by first | rfl | simp [vec_noP,tag_noP,hx.noP,noP_int,op_noP,hyn]) (by first | rfl | simp [vec_noP,tag_noP,hx.noP,noP_int,op_noP,hyn]) (by first | exact op_bare _ | exact vec_bare _ | rfl) ?_
          simp only [sS,↓sT,Nat.reduceLT,Nat.reduceEqDiff,↓sD,↓D_g,memOk,lets0,lets1,List.not_mem_nil,not_false_eq_true,true_and,and_true,sG,opV,loudV,cellsOf,strOp,evL,Nat.reduceAdd,Int.reduceBEq,Int.reduceBNe,ti23,ti52,or_self,hyl,hip,hve,hle,hce,vec_cells,all_ints,(vec_load hv),tag_cells,tag_isC,cat_at,cat_set,wr15,op_isC,op_full,op_len,op_cells,opCells,icell_int,icell_str,icell_bool,dropsW_isC,Bool.and_self,load15,load_int,tag_load2,tag_load,tag_fold,opZ_w,List.drop_zero,List.all_cons,List.all_nil,gt_iff_lt,ge_iff_le,List.mem_singleton,List.mem_cons,ti3,ti2,ti9,ti4,ti47,ti38,ti49,ti25,hb4,hb8,hb13,hg17_2,hg17_5,hg17_12,hg17_15,hg17_18,hb18]
          refine hN21 _ ?_; try clear hN21 hD21 N21
          refine WC_ret ?_; (try simp only [Exit.after,Exit.out]); refine Kend_ret (by simp only [resOf,resL,resV,mkS_get,slots_get,cellsOf,load_str,load_bool,load_int,load_slice,ti3,sS,↓sT,Nat.reduceLT,Nat.reduceEqDiff]; rfl) (by first | rfl | (simp only [load_str,load_bool,load_int,load_slice,ti3]; done) | (simp only [load_str,load_bool,load_int,load_slice,ti3,okV,ok1,okC,okP,List.all_cons,List.all_nil,Bool.and_true]; done)) ?_
          first
          | rfl
          | (cases hb4; done)
          | (exfalso
             clear hsub hip hyl hyb hyn hF hR hld
             rcases Int.lt_or_le (atL m a c) 0 with hi0 | hi0
             · have e := hfl.1 hi0
               have hz := sameO_refl opZ
               simp_all <;> omega
             · obtain ⟨q,hq,e⟩ := hfl.2 hi0
               have hqp : q = p := by rw [hpl hi0] at hq; exact (Option.some.inj hq).symm
               subst hqp
               have hz : sameO q.own q = true := by rw [sameO_own,sameO_refl]
               simp_all <;> omega)
        ·simp only [sS,↓sT,Nat.reduceLT,Nat.reduceEqDiff,↓sD,↓D_g,memOk,lets0,lets1,List.not_mem_nil,not_false_eq_true,true_and,and_true,sG,opV,loudV,cellsOf,strOp,evL,Nat.reduceAdd,Int.reduceBEq,Int.reduceBNe,ti49,buildV,evParts,V.isCell,List.all_cons,List.all_nil,Bool.and_self,if_true,placesOf,fillV,List.getElem?_cons_zero,List.getElem?_cons_succ,List.length_cons,List.length_nil,Nat.zero_add,ne_eq,not_true_eq_false,false_or,gt_iff_lt,if_false,wrL,Option.map_some,List.set_cons_zero,List.set_cons_succ,ti52,or_self,hyl,hip,hve,hle,hce,vec_cells,all_ints,(vec_load hv),tag_cells,tag_isC,cat_at,cat_set,wr15,op_isC,op_full,op_len,op_cells,opCells,icell_int,icell_str,icell_bool,dropsW_isC,load15,load_int,tag_load2,tag_load,tag_fold,opZ_w,List.drop_zero,ge_iff_le,List.mem_singleton,List.mem_cons,ti3,ti2,ti9,ti4,ti47,ti38,ti25,ti23,hb4,hb8,hb13,hg17_2,hg17_5,hg17_12,hg17_15,hg17_18]
         refine hN17 _ ?_; try clear hN17 hD17 N17
         refine WC_condE ?_
         simp only [sS,↓sT,Nat.reduceLT,Nat.reduceEqDiff,↓stepC_bool,hb4,hb8,hb13,hg17_2,hg17_5,hg17_12,hg17_15,hg17_18,Int.reduceBEq,Int.reduceBNe,beq_self_eq_true,bne_self_eq_false]
         refine ⟨fun hb => ?_,fun hb => (by cases hb)⟩
         refine WC_seqR (fun N22 hN22 hD22 => ?_)
         simp only [sS,↓sT,Nat.reduceLT,Nat.reduceEqDiff,↓sO,↓WOps_g,sG,opV,loudV,cellsOf,strOp,evL,Nat.reduceAdd,Int.reduceBEq,Int.reduceBNe,or_self,not_false_eq_true,hyl,hip,hve,hle,hce,vec_cells,all_ints,(vec_load hv),tag_cells,tag_isC,cat_at,cat_set,wr15,op_isC,op_full,op_len,op_cells,opCells,icell_int,icell_str,icell_bool,dropsW_isC,Bool.and_self,load15,load_int,tag_load2,tag_load,tag_fold,opZ_w,List.drop_zero,List.all_cons,List.all_nil,gt_iff_lt,ge_iff_le,List.mem_singleton,List.mem_cons,ti3,ti2,ti9,ti4,ti47,ti38,ti49,ti25,ti23,hb4,hb8,hb13,hg17_2,hg17_5,hg17_12,hg17_15,hg17_18]
         refine hN22 _ ?_; try clear hN22 hD22 N22
         refine WC_ret ?_; (try simp only [Exit.after,Exit.out]); refine Kend_ret (by simp only [resOf,resL,resV,mkS_get,slots_get,cellsOf,load_str,load_bool,load_int,load_slice,ti3,sS,↓sT,Nat.reduceLT,Nat.reduceEqDiff]; rfl) (by first | rfl | (simp only [load_str,load_bool,load_int,load_slice,ti3]; done) | (simp only [load_str,load_bool,load_int,load_slice,ti3,okV,ok1,okC,okP,List.all_cons,List.all_nil,Bool.and_true]; done)) ?_
         clear hN16 hD16 N16
         first
         | rfl
         | (cases hb4; done)
         | (exfalso
            clear hsub hip hyl hyb hyn hF hR hld
            rcases Int.lt_or_le (atL m a c) 0 with hi0 | hi0
            · have e := hfl.1 hi0
              have hz := sameO_refl opZ
              simp_all <;> omega
            · obtain ⟨q,hq,e⟩ := hfl.2 hi0
              have hqp : q = p := by rw [hpl hi0] at hq; exact (Option.some.inj hq).symm
              subst hqp
              have hz : sameO q.own q = true := by rw [sameO_own,sameO_refl]
              simp_all <;> omega)
       ·simp only [sS,↓sT,Nat.reduceLT,Nat.reduceEqDiff,↓sD,↓D_g,memOk,lets0,lets1,List.not_mem_nil,not_false_eq_true,true_and,and_true,sG,opV,loudV,cellsOf,strOp,evL,Nat.reduceAdd,Int.reduceBEq,Int.reduceBNe,ti49,buildV,evParts,V.isCell,List.all_cons,List.all_nil,Bool.and_self,if_true,placesOf,fillV,List.getElem?_cons_zero,List.getElem?_cons_succ,List.length_cons,List.length_nil,Nat.zero_add,ne_eq,not_true_eq_false,false_or,gt_iff_lt,if_false,wrL,Option.map_some,List.set_cons_zero,List.set_cons_succ,ti52,or_self,hyl,hip,hve,hle,hce,vec_cells,all_ints,(vec_load hv),tag_cells,tag_isC,cat_at,cat_set,wr15,op_isC,op_full,op_len,op_cells,opCells,icell_int,icell_str,icell_bool,dropsW_isC,load15,load_int,tag_load2,tag_load,tag_fold,opZ_w,List.drop_zero,ge_iff_le,List.mem_singleton,List.mem_cons,ti3,ti2,ti9,ti4,ti47,ti38,ti25,ti23,hb4,hb8,hb13,hg17_2,hg17_5,hg17_12,hg17_15]
        refine hN17 _ ?_; try clear hN17 hD17 N17
        refine WC_condE ?_
        simp only [sS,↓sT,Nat.reduceLT,Nat.reduceEqDiff,↓stepC_bool,hb4,hb8,hb13,hg17_2,hg17_5,hg17_12,hg17_15,Int.reduceBEq,Int.reduceBNe,beq_self_eq_true,bne_self_eq_false]
        refine ⟨fun hb => (by cases hb),fun hb => ?_⟩
        refine WC_skip ?_
        refine hN16 _ ?_; try clear hN16 hD16 N16
        refine WC_seqR (fun N23 hN23 hD23 => ?_)
        simp only [sS,↓sT,Nat.reduceLT,Nat.reduceEqDiff,↓sO,↓WOps_g,sG,opV,loudV,cellsOf,strOp,evL,Nat.reduceAdd,Int.reduceBEq,Int.reduceBNe,or_self,not_false_eq_true,hyl,hip,hve,hle,hce,vec_cells,all_ints,(vec_load hv),tag_cells,tag_isC,cat_at,cat_set,wr15,op_isC,op_full,op_len,op_cells,opCells,icell_int,icell_str,icell_bool,dropsW_isC,Bool.and_self,load15,load_int,tag_load2,tag_load,tag_fold,opZ_w,List.drop_zero,List.all_cons,List.all_nil,gt_iff_lt,ge_iff_le,List.mem_singleton,List.mem_cons,ti3,ti2,ti9,ti4,ti47,ti38,ti49,ti25,ti23,hb4,hb8,hb13,hg17_2,hg17_5,hg17_12,hg17_15]
        refine WOps_copyB (b := 2) hF (by simp only [ev_func]) (by first | (simp only [evL,sS,↓sT,Nat.reduceLT,Nat.reduceEqDiff]; done) | (simp only [evL,sS,↓sT,Nat.reduceLT,Nat.reduceEqDiff]; rfl)) rfl (fun ds2 ow2 n2 hP2 hT2 => ?_)
        have hlens : ∀ l ∈ Ls,l.length ≤ 400 := fun l hl => by have := len_tot hl; have := hR.tt; omega
        have hle := len_eq hR hm60
        have hve := vec_eq (a := haveL Ls) (b := haveL Ls) hF.p.bare.len hF.p.bare.len
        have cH := c_punnet_punnetref26_Have m y hF.y (by omega) (fun o ho => by obtain ⟨r1,r6,_⟩ := right_facts (hR.right o ho); exact ⟨r1,r6⟩)
        rw [← have_eq hR] at cH
        have cC := h__punnet_pool_Pool_Clock Ls ds hF.p hF.t hF.d hlens
        rw [clock_eq hF.c hm60] at cC
        have hPs : PS (sortL m) (.slice 15 ((sortL m).map opW) (m.length == 0) none) := .inr ⟨_,rfl⟩
        have hPr : PS (refSince m v most) (.slice 15 ((refSince m v most).map opW) ((refSince m v most).length == 0) none) := .inr ⟨_,rfl⟩
        have cS1 := c_punnet_punnetref20_SameOps _ _ _ _ (opsV_PS (sinceL Ls zeroV 400)) hPs (since_len _ _) (since_drops hF.d)
        rw [show sameOps (sinceL Ls zeroV 400) (sortL m) = true from by rw [ops_eq hF.c hm60,sameOps_own]] at cS1
        have cS2 := c_punnet_punnetref20_SameOps _ _ _ _ (opsV_PS (sinceL Ls zeroV 400)) (opsV_PS (sinceL Ls zeroV 400)) (since_len _ _) (since_drops hF.d)
        rw [sameOps_refl] at cS2
        have cS3 := c_punnet_punnetref20_SameOps _ _ _ _ (opsV_PS (sinceL Ls v most)) hPr (by rw [sinceL,List.length_take]; have := part_le hR v; unfold maxLen; omega) (since_drops hF.d)
        rw [show sameOps (sinceL Ls v most) (refSince m v most) = true from by rw [since_eq hF.c,sameOps_own]] at cS3
        have ob1 := (opsV_PS (sinceL Ls zeroV 400)).bare
        have ob2 := (opsV_PS (sinceL Ls v most)).bare
        have on1 := (opsV_PS (sinceL Ls zeroV 400)).noP
        have on2 := (opsV_PS (sinceL Ls v most)).noP
        clear hfl hfd hip hp hpl
        simp only [sS,↓sT,Nat.reduceLT,Nat.reduceEqDiff,↓sO,↓WOps_g,sG,opV,loudV,cellsOf,strOp,evL,Nat.reduceAdd,Int.reduceBEq,Int.reduceBNe,or_self,not_false_eq_true,hyl,hip,hve,hle,hce,vec_cells,all_ints,(vec_load hv),tag_cells,tag_isC,cat_at,cat_set,wr15,op_isC,op_full,op_len,op_cells,opCells,icell_int,icell_str,icell_bool,dropsW_isC,Bool.and_self,load15,load_int,tag_load2,tag_load,tag_fold,opZ_w,List.drop_zero,List.all_cons,List.all_nil,gt_iff_lt,ge_iff_le,List.mem_singleton,List.mem_cons,ti3,ti2,ti9,ti4,ti47,ti38,ti49,ti25,ti23,hb4,hb8,hb13,hg17_2,hg17_5,hg17_12,hg17_15]
        refine hN23 _ ?_; try clear hN23 hD23 N23
        refine WC_seqD mixed [2] [0,0,0,0,0,0,0,0,0,0,0,0,0,0,0,0,1,0,0,0,0,0,0,0,0,0,0,0,0,0,0,0,0,0,0,0,0,0,0,0,0,0,0,0,0] (by decide +kernel) (fun N24 hN24 hD24 => ?_)
        simp only [sS,↓sT,Nat.reduceLT,Nat.reduceEqDiff,↓sD,↓D_g,memOk,lets0,lets1,List.not_mem_nil,not_false_eq_true,true_and,and_true,sG,opV,loudV,cellsOf,strOp,evL,Nat.reduceAdd,Int.reduceBEq,Int.reduceBNe,ti23,ti52,or_self,hyl,hip,hve,hle,hce,vec_cells,all_ints,(vec_load hv),tag_cells,tag_isC,cat_at,cat_set,wr15,op_isC,op_full,op_len,op_cells,opCells,icell_int,icell_str,icell_bool,dropsW_isC,Bool.and_self,load15,load_int,tag_load2,tag_load,tag_fold,opZ_w,List.drop_zero,List.all_cons,List.all_nil,gt_iff_lt,ge_iff_le,List.mem_singleton,List.mem_cons,ti3,ti2,ti9,ti4,ti47,ti38,ti49,ti25,hb4,hb8,hb13,hg17_2,hg17_5,hg17_12,hg17_15]
        refine D_callB (b := 2) (ys := []) (h__punnet_pool_Pool_Ops Ls ds hF.p hF.d hlens) hF.p hF.t (fun y hy => absurd hy List.not_mem_nil) (opsV_facts _).1 (opsV_facts _).2.1 (by simp [limOf,Lim.lets]) (by simp only [ev_func]) (by first | (simp only [evL,sS,↓sT,Nat.reduceLT,Nat.reduceEqDiff]; done) | (simp only [evL,sS,↓sT,Nat.reduceLT,Nat.reduceEqDiff]; rfl)) rfl (fun ow3 n3 hsub3 => ?_)
        simp only [sS,↓sT,Nat.reduceLT,Nat.reduceEqDiff,↓sD,↓D_g,memOk,lets0,lets1,List.not_mem_nil,not_false_eq_true,true_and,and_true,sG,opV,loudV,cellsOf,strOp,evL,Nat.reduceAdd,Int.reduceBEq,Int.reduceBNe,ti23,ti52,or_self,hyl,hip,hve,hle,hce,vec_cells,all_ints,(vec_load hv),tag_cells,tag_isC,cat_at,cat_set,wr15,op_isC,op_full,op_len,op_cells,opCells,icell_int,icell_str,icell_bool,dropsW_isC,Bool.and_self,load15,load_int,tag_load2,tag_load,tag_fold,opZ_w,List.drop_zero,List.all_cons,List.all_nil,gt_iff_lt,ge_iff_le,List.mem_singleton,List.mem_cons,ti3,ti2,ti9,ti4,ti47,ti38,ti49,ti25,hb4,hb8,hb13,hg17_2,hg17_5,hg17_12,hg17_15]
        refine D_callP (c_punnet_punnetref26_Sorted m y hF.y (by omega)) (by simp only [ev_func]) (by simp only [evL,sS,↓sT,Nat.reduceLT,Nat.reduceEqDiff]; rfl) (by first | rfl | (simp only [List.map,vec_bare,tag_bare,hx.bare,op_bare,hyb]; done) | (simp only [List.map,vec_bare,tag_bare,hx.bare,op_bare,hyb]; exact rfl)) (by first | rfl | simp [vec_noP,tag_noP,hx.noP,noP_int,op_noP,hyn]) (by first | rfl | simp [vec_noP,tag_noP,hx.noP,noP_int,op_noP,hyn]) (by first | exact op_bare _ | exact vec_bare _ | rfl) ?_
        simp only [sS,↓sT,Nat.reduceLT,Nat.reduceEqDiff,↓sD,↓D_g,memOk,lets0,lets1,List.not_mem_nil,not_false_eq_true,true_and,and_true,sG,opV,loudV,cellsOf,strOp,evL,Nat.reduceAdd,Int.reduceBEq,Int.reduceBNe,ti23,ti52,or_self,hyl,hip,hve,hle,hce,vec_cells,all_ints,(vec_load hv),tag_cells,tag_isC,cat_at,cat_set,wr15,op_isC,op_full,op_len,op_cells,opCells,icell_int,icell_str,icell_bool,dropsW_isC,Bool.and_self,load15,load_int,tag_load2,tag_load,tag_fold,opZ_w,List.drop_zero,List.all_cons,List.all_nil,gt_iff_lt,ge_iff_le,List.mem_singleton,List.mem_cons,ti3,ti2,ti9,ti4,ti47,ti38,ti49,ti25,hb4,hb8,hb13,hg17_2,hg17_5,hg17_12,hg17_15]
        refine D_callP cS1 (by simp only [ev_func]) (by simp only [evL,sS,↓sT,Nat.reduceLT,Nat.reduceEqDiff]; rfl) (by first | (simp only [List.map_cons,List.map_nil,ob1]; done) | (simp only [List.map_cons,List.map_nil,ob1]; rfl)) (by simp only [List.all_cons,on1]; rfl) rfl rfl ?_
        simp only [sS,↓sT,Nat.reduceLT,Nat.reduceEqDiff,↓sD,↓D_g,memOk,lets0,lets1,List.not_mem_nil,not_false_eq_true,true_and,and_true,sG,opV,loudV,cellsOf,strOp,evL,Nat.reduceAdd,Int.reduceBEq,Int.reduceBNe,ti23,ti52,or_self,hyl,hip,hve,hle,hce,vec_cells,all_ints,(vec_load hv),tag_cells,tag_isC,cat_at,cat_set,wr15,op_isC,op_full,op_len,op_cells,opCells,icell_int,icell_str,icell_bool,dropsW_isC,Bool.and_self,load15,load_int,tag_load2,tag_load,tag_fold,opZ_w,List.drop_zero,List.all_cons,List.all_nil,gt_iff_lt,ge_iff_le,List.mem_singleton,List.mem_cons,ti3,ti2,ti9,ti4,ti47,ti38,ti49,ti25,hb4,hb8,hb13,hg17_2,hg17_5,hg17_12,hg17_15]
        refine D_callB (b := 4) (ys := []) (h__punnet_pool_Pool_Ops Ls ds2 hP2 hF.d hlens) hP2 hT2 (fun y hy => absurd hy List.not_mem_nil) (opsV_facts _).1 (opsV_facts _).2.1 (by simp [limOf,Lim.lets]) (by simp only [ev_func]) (by first | (simp only [evL,sS,↓sT,Nat.reduceLT,Nat.reduceEqDiff]; done) | (simp only [evL,sS,↓sT,Nat.reduceLT,Nat.reduceEqDiff]; rfl)) rfl (fun ow3 n3 hsub3 => ?_)
        simp only [sS,↓sT,Nat.reduceLT,Nat.reduceEqDiff,↓sD,↓D_g,memOk,lets0,lets1,List.not_mem_nil,not_false_eq_true,true_and,and_true,sG,opV,loudV,cellsOf,strOp,evL,Nat.reduceAdd,Int.reduceBEq,Int.reduceBNe,ti23,ti52,or_self,hyl,hip,hve,hle,hce,vec_cells,all_ints,(vec_load hv),tag_cells,tag_isC,cat_at,cat_set,wr15,op_isC,op_full,op_len,op_cells,opCells,icell_int,icell_str,icell_bool,dropsW_isC,Bool.and_self,load15,load_int,tag_load2,tag_load,tag_fold,opZ_w,List.drop_zero,List.all_cons,List.all_nil,gt_iff_lt,ge_iff_le,List.mem_singleton,List.mem_cons,ti3,ti2,ti9,ti4,ti47,ti38,ti49,ti25,hb4,hb8,hb13,hg17_2,hg17_5,hg17_12,hg17_15]
        refine D_callB (b := 2) (ys := []) (h__punnet_pool_Pool_Ops Ls ds hF.p hF.d hlens) hF.p hF.t (fun y hy => absurd hy List.not_mem_nil) (opsV_facts _).1 (opsV_facts _).2.1 (by simp [limOf,Lim.lets]) (by simp only [ev_func]) (by first | (simp only [evL,sS,↓sT,Nat.reduceLT,Nat.reduceEqDiff]; done) | (simp only [evL,sS,↓sT,Nat.reduceLT,Nat.reduceEqDiff]; rfl)) rfl (fun ow3 n3 hsub3 => ?_)
        simp only [sS,↓sT,Nat.reduceLT,Nat.reduceEqDiff,↓sD,↓D_g,memOk,lets0,lets1,List.not_mem_nil,not_false_eq_true,true_and,and_true,sG,opV,loudV,cellsOf,strOp,evL,Nat.reduceAdd,Int.reduceBEq,Int.reduceBNe,ti23,ti52,or_self,hyl,hip,hve,hle,hce,vec_cells,all_ints,(vec_load hv),tag_cells,tag_isC,cat_at,cat_set,wr15,op_isC,op_full,op_len,op_cells,opCells,icell_int,icell_str,icell_bool,dropsW_isC,Bool.and_self,load15,load_int,tag_load2,tag_load,tag_fold,opZ_w,List.drop_zero,List.all_cons,List.all_nil,gt_iff_lt,ge_iff_le,List.mem_singleton,List.mem_cons,ti3,ti2,ti9,ti4,ti47,ti38,ti49,ti25,hb4,hb8,hb13,hg17_2,hg17_5,hg17_12,hg17_15]
        refine D_callP cS2 (by simp only [ev_func]) (by simp only [evL,sS,↓sT,Nat.reduceLT,Nat.reduceEqDiff]; rfl) (by first | (simp only [List.map_cons,List.map_nil,ob1]; done) | (simp only [List.map_cons,List.map_nil,ob1]; rfl)) (by simp only [List.all_cons,on1]; rfl) rfl rfl ?_
        simp only [sS,↓sT,Nat.reduceLT,Nat.reduceEqDiff,↓sD,↓D_g,memOk,lets0,lets1,List.not_mem_nil,not_false_eq_true,true_and,and_true,sG,opV,loudV,cellsOf,strOp,evL,Nat.reduceAdd,Int.reduceBEq,Int.reduceBNe,ti23,ti52,or_self,hyl,hip,hve,hle,hce,vec_cells,all_ints,(vec_load hv),tag_cells,tag_isC,cat_at,cat_set,wr15,op_isC,op_full,op_len,op_cells,opCells,icell_int,icell_str,icell_bool,dropsW_isC,Bool.and_self,load15,load_int,tag_load2,tag_load,tag_fold,opZ_w,List.drop_zero,List.all_cons,List.all_nil,gt_iff_lt,ge_iff_le,List.mem_singleton,List.mem_cons,ti3,ti2,ti9,ti4,ti47,ti38,ti49,ti25,hb4,hb8,hb13,hg17_2,hg17_5,hg17_12,hg17_15]
        refine D_callB (b := 2) (ys := [vecV v, .int .i64 most]) (by rw [vec_bare1L]; exact h__punnet_pool_Pool_Since Ls ds hF.p v hv most hF.d hlens) hF.p hF.t (by intro y hy; simp only [List.mem_cons,List.not_mem_nil,or_false] at hy; rcases hy with rfl | rfl; exact vec_noP v; rfl) (opsV_facts _).1 (opsV_facts _).2.1 (by simp [limOf,Lim.lets]) (by simp only [ev_func]) (by first | (simp only [evL,sS,↓sT,Nat.reduceLT,Nat.reduceEqDiff]; done) | (simp only [evL,sS,↓sT,Nat.reduceLT,Nat.reduceEqDiff]; rfl)) rfl (fun ow3 n3 hsub3 => ?_)
        simp only [sS,↓sT,Nat.reduceLT,Nat.reduceEqDiff,↓sD,↓D_g,memOk,lets0,lets1,List.not_mem_nil,not_false_eq_true,true_and,and_true,sG,opV,loudV,cellsOf,strOp,evL,Nat.reduceAdd,Int.reduceBEq,Int.reduceBNe,ti23,ti52,or_self,hyl,hip,hve,hle,hce,vec_cells,all_ints,(vec_load hv),tag_cells,tag_isC,cat_at,cat_set,wr15,op_isC,op_full,op_len,op_cells,opCells,icell_int,icell_str,icell_bool,dropsW_isC,Bool.and_self,load15,load_int,tag_load2,tag_load,tag_fold,opZ_w,List.drop_zero,List.all_cons,List.all_nil,gt_iff_lt,ge_iff_le,List.mem_singleton,List.mem_cons,ti3,ti2,ti9,ti4,ti47,ti38,ti49,ti25,hb4,hb8,hb13,hg17_2,hg17_5,hg17_12,hg17_15]
        refine D_callP (c_punnet_punnetref26_Since m y hF.y (by omega) v hv most) (by simp only [ev_func]) (by simp only [evL,sS,↓sT,Nat.reduceLT,Nat.reduceEqDiff]; rfl) (by first | rfl | (simp only [List.map,vec_bare,tag_bare,hx.bare,op_bare,hyb]; done) | (simp only [List.map,vec_bare,tag_bare,hx.bare,op_bare,hyb]; exact rfl)) (by first | rfl | simp [vec_noP,tag_noP,hx.noP,noP_int,op_noP,hyn]) (by first | rfl | simp [vec_noP,tag_noP,hx.noP,noP_int,op_noP,hyn]) (by first | exact op_bare _ | exact vec_bare _ | rfl) ?_
        simp only [sS,↓sT,Nat.reduceLT,Nat.reduceEqDiff,↓sD,↓D_g,memOk,lets0,lets1,List.not_mem_nil,not_false_eq_true,true_and,and_true,sG,opV,loudV,cellsOf,strOp,evL,Nat.reduceAdd,Int.reduceBEq,Int.reduceBNe,ti23,ti52,or_self,hyl,hip,hve,hle,hce,vec_cells,all_ints,(vec_load hv),tag_cells,tag_isC,cat_at,cat_set,wr15,op_isC,op_full,op_len,op_cells,opCells,icell_int,icell_str,icell_bool,dropsW_isC,Bool.and_self,load15,load_int,tag_load2,tag_load,tag_fold,opZ_w,List.drop_zero,List.all_cons,List.all_nil,gt_iff_lt,ge_iff_le,List.mem_singleton,List.mem_cons,ti3,ti2,ti9,ti4,ti47,ti38,ti49,ti25,hb4,hb8,hb13,hg17_2,hg17_5,hg17_12,hg17_15]
        refine D_callP cS3 (by simp only [ev_func]) (by simp only [evL,sS,↓sT,Nat.reduceLT,Nat.reduceEqDiff]; rfl) (by first | (simp only [List.map_cons,List.map_nil,ob2]; done) | (simp only [List.map_cons,List.map_nil,ob2]; rfl)) (by simp only [List.all_cons,on2]; rfl) rfl rfl ?_
        simp only [sS,↓sT,Nat.reduceLT,Nat.reduceEqDiff,↓sD,↓D_g,memOk,lets0,lets1,List.not_mem_nil,not_false_eq_true,true_and,and_true,sG,opV,loudV,cellsOf,strOp,evL,Nat.reduceAdd,Int.reduceBEq,Int.reduceBNe,ti23,ti52,or_self,hyl,hip,hve,hle,hce,vec_cells,all_ints,(vec_load hv),tag_cells,tag_isC,cat_at,cat_set,wr15,op_isC,op_full,op_len,op_cells,opCells,icell_int,icell_str,icell_bool,dropsW_isC,Bool.and_self,load15,load_int,tag_load2,tag_load,tag_fold,opZ_w,List.drop_zero,List.all_cons,List.all_nil,gt_iff_lt,ge_iff_le,List.mem_singleton,List.mem_cons,ti3,ti2,ti9,ti4,ti47,ti38,ti49,ti25,hb4,hb8,hb13,hg17_2,hg17_5,hg17_12,hg17_15]
        refine D_callL (xs := [.ptr 2 0]) (c_have hF.p.bare) ?_ ?_ ?_ ?_ (vec_pl _) ?_
        · omega
        · simp only [ev_func]
        · first | (simp only [evL,sS,↓sT,Nat.reduceLT,Nat.reduceEqDiff]; done) | (simp only [evL,sS,↓sT,Nat.reduceLT,Nat.reduceEqDiff]; rfl)
        · exact hF.p.lentAt (b := 2) rfl
        simp only [sS,↓sT,Nat.reduceLT,Nat.reduceEqDiff,↓sD,↓D_g,memOk,lets0,lets1,List.not_mem_nil,not_false_eq_true,true_and,and_true,sG,opV,loudV,cellsOf,strOp,evL,Nat.reduceAdd,Int.reduceBEq,Int.reduceBNe,ti23,ti52,or_self,hyl,hip,hve,hle,hce,vec_cells,all_ints,(vec_load hv),tag_cells,tag_isC,cat_at,cat_set,wr15,op_isC,op_full,op_len,op_cells,opCells,icell_int,icell_str,icell_bool,dropsW_isC,Bool.and_self,load15,load_int,tag_load2,tag_load,tag_fold,opZ_w,List.drop_zero,List.all_cons,List.all_nil,gt_iff_lt,ge_iff_le,List.mem_singleton,List.mem_cons,ti3,ti2,ti9,ti4,ti47,ti38,ti49,ti25,hb4,hb8,hb13,hg17_2,hg17_5,hg17_12,hg17_15]
        refine D_callP cH (by simp only [ev_func]) (by simp only [evL,sS,↓sT,Nat.reduceLT,Nat.reduceEqDiff]; rfl) (by first | rfl | (simp only [List.map,vec_bare,tag_bare,hx.bare,op_bare,hyb]; done) | (simp only [List.map,vec_bare,tag_bare,hx.bare,op_bare,hyb]; exact rfl)) (by first | rfl | simp [vec_noP,tag_noP,hx.noP,noP_int,op_noP,hyn]) (by first | rfl | simp [vec_noP,tag_noP,hx.noP,noP_int,op_noP,hyn]) (by first | exact op_bare _ | exact vec_bare _ | rfl) ?_
        simp only [sS,↓sT,Nat.reduceLT,Nat.reduceEqDiff,↓sD,↓D_g,memOk,lets0,lets1,List.not_mem_nil,not_false_eq_true,true_and,and_true,sG,opV,loudV,cellsOf,strOp,evL,Nat.reduceAdd,Int.reduceBEq,Int.reduceBNe,ti23,ti52,or_self,hyl,hip,hve,hle,hce,vec_cells,all_ints,(vec_load hv),tag_cells,tag_isC,cat_at,cat_set,wr15,op_isC,op_full,op_len,op_cells,opCells,icell_int,icell_str,icell_bool,dropsW_isC,Bool.and_self,load15,load_int,tag_load2,tag_load,tag_fold,opZ_w,List.drop_zero,List.all_cons,List.all_nil,gt_iff_lt,ge_iff_le,List.mem_singleton,List.mem_cons,ti3,ti2,ti9,ti4,ti47,ti38,ti49,ti25,hb4,hb8,hb13,hg17_2,hg17_5,hg17_12,hg17_15]
        refine D_callL (xs := [.ptr 2 0]) (c__punnet_pool_Pool_Len Ls (ds.map V.bareC) hF.p.bare) ?_ ?_ ?_ ?_ rfl ?_
        · omega
        · simp only [ev_func]
        · first | (simp only [evL,sS,↓sT,Nat.reduceLT,Nat.reduceEqDiff]; done) | (simp only [evL,sS,↓sT,Nat.reduceLT,Nat.reduceEqDiff]; rfl)
        · exact hF.p.lentAt (b := 2) rfl
        simp only [sS,↓sT,Nat.reduceLT,Nat.reduceEqDiff,↓sD,↓D_g,memOk,lets0,lets1,List.not_mem_nil,not_false_eq_true,true_and,and_true,sG,opV,loudV,cellsOf,strOp,evL,Nat.reduceAdd,Int.reduceBEq,Int.reduceBNe,ti23,ti52,or_self,hyl,hip,hve,hle,hce,vec_cells,all_ints,(vec_load hv),tag_cells,tag_isC,cat_at,cat_set,wr15,op_isC,op_full,op_len,op_cells,opCells,icell_int,icell_str,icell_bool,dropsW_isC,Bool.and_self,load15,load_int,tag_load2,tag_load,tag_fold,opZ_w,List.drop_zero,List.all_cons,List.all_nil,gt_iff_lt,ge_iff_le,List.mem_singleton,List.mem_cons,ti3,ti2,ti9,ti4,ti47,ti38,ti49,ti25,hb4,hb8,hb13,hg17_2,hg17_5,hg17_12,hg17_15]
        refine D_callB (b := 2) (ys := []) cC hF.p hF.t (fun y hy => absurd hy List.not_mem_nil) rfl rfl (by simp [limOf,Lim.lets]) (by simp only [ev_func]) (by first | (simp only [evL,sS,↓sT,Nat.reduceLT,Nat.reduceEqDiff]; done) | (simp only [evL,sS,↓sT,Nat.reduceLT,Nat.reduceEqDiff]; rfl)) rfl (fun ow3 n3 hsub3 => ?_)
        simp only [sS,↓sT,Nat.reduceLT,Nat.reduceEqDiff,↓sD,↓D_g,memOk,lets0,lets1,List.not_mem_nil,not_false_eq_true,true_and,and_true,sG,opV,loudV,cellsOf,strOp,evL,Nat.reduceAdd,Int.reduceBEq,Int.reduceBNe,ti23,ti52,or_self,hyl,hip,hve,hle,hce,vec_cells,all_ints,(vec_load hv),tag_cells,tag_isC,cat_at,cat_set,wr15,op_isC,op_full,op_len,op_cells,opCells,icell_int,icell_str,icell_bool,dropsW_isC,Bool.and_self,load15,load_int,tag_load2,tag_load,tag_fold,opZ_w,List.drop_zero,List.all_cons,List.all_nil,gt_iff_lt,ge_iff_le,List.mem_singleton,List.mem_cons,ti3,ti2,ti9,ti4,ti47,ti38,ti49,ti25,hb4,hb8,hb13,hg17_2,hg17_5,hg17_12,hg17_15]
        refine D_callP (c_punnet_punnetref26_Clock m y hF.y (by omega)) (by simp only [ev_func]) (by simp only [evL,sS,↓sT,Nat.reduceLT,Nat.reduceEqDiff]; rfl) (by first | rfl | (simp only [List.map,vec_bare,tag_bare,hx.bare,op_bare,hyb]; done) | (simp only [List.map,vec_bare,tag_bare,hx.bare,op_bare,hyb]; exact rfl)) (by first | rfl | simp [vec_noP,tag_noP,hx.noP,noP_int,op_noP,hyn]) (by first | rfl | simp [vec_noP,tag_noP,hx.noP,noP_int,op_noP,hyn]) (by first | exact op_bare _ | exact vec_bare _ | rfl) ?_
        simp only [sS,↓sT,Nat.reduceLT,Nat.reduceEqDiff,↓sD,↓D_g,memOk,lets0,lets1,List.not_mem_nil,not_false_eq_true,true_and,and_true,sG,opV,loudV,cellsOf,strOp,evL,Nat.reduceAdd,Int.reduceBEq,Int.reduceBNe,ti23,ti52,or_self,hyl,hip,hve,hle,hce,vec_cells,all_ints,(vec_load hv),tag_cells,tag_isC,cat_at,cat_set,wr15,op_isC,op_full,op_len,op_cells,opCells,icell_int,icell_str,icell_bool,dropsW_isC,Bool.and_self,load15,load_int,tag_load2,tag_load,tag_fold,opZ_w,List.drop_zero,List.all_cons,List.all_nil,gt_iff_lt,ge_iff_le,List.mem_singleton,List.mem_cons,ti3,ti2,ti9,ti4,ti47,ti38,ti49,ti25,hb4,hb8,hb13,hg17_2,hg17_5,hg17_12,hg17_15]
        refine hN24 _ ?_; try clear hN24 hD24 N24
        refine WC_ret ?_; (try simp only [Exit.after,Exit.out]); refine Kend_ret (by simp only [resOf,resL,resV,mkS_get,slots_get,cellsOf,load_str,load_bool,load_int,load_slice,ti3,sS,↓sT,Nat.reduceLT,Nat.reduceEqDiff]; rfl) (by first | rfl | (simp only [load_str,load_bool,load_int,load_slice,ti3]; done) | (simp only [load_str,load_bool,load_int,load_slice,ti3,okV,ok1,okC,okP,List.all_cons,List.all_nil,Bool.and_true]; done)) ?_
        first
        | rfl
        | (cases hb4; done)
        | (exfalso
           clear hsub hip hyl hyb hyn hF hR hld
           rcases Int.lt_or_le (atL m a c) 0 with hi0 | hi0
           · have e := hfl.1 hi0
             have hz := sameO_refl opZ
             simp_all <;> omega
           · obtain ⟨q,hq,e⟩ := hfl.2 hi0
             have hqp : q = p := by rw [hpl hi0] at hq; exact (Option.some.inj hq).symm
             subst hqp
             have hz : sameO q.own q = true := by rw [sameO_own,sameO_refl]
             simp_all <;> omega)
      ·simp only [sS,↓sT,Nat.reduceLT,Nat.reduceEqDiff,↓sD,↓D_g,memOk,lets0,lets1,List.not_mem_nil,not_false_eq_true,true_and,and_true,sG,opV,loudV,cellsOf,strOp,evL,Nat.reduceAdd,Int.reduceBEq,Int.reduceBNe,ti49,buildV,evParts,V.isCell,List.all_cons,List.all_nil,Bool.and_self,if_true,placesOf,fillV,List.getElem?_cons_zero,List.getElem?_cons_succ,List.length_cons,List.length_nil,Nat.zero_add,ne_eq,not_true_eq_false,false_or,gt_iff_lt,if_false,wrL,Option.map_some,List.set_cons_zero,List.set_cons_succ,ti52,or_self,hyl,hip,hve,hle,hce,vec_cells,all_ints,(vec_load hv),tag_cells,tag_isC,cat_at,cat_set,wr15,op_isC,op_full,op_len,op_cells,opCells,icell_int,icell_str,icell_bool,dropsW_isC,load15,load_int,tag_load2,tag_load,tag_fold,opZ_w,List.drop_zero,ge_iff_le,List.mem_singleton,List.mem_cons,ti3,ti2,ti9,ti4,ti47,ti38,ti25,ti23,hb4,hb8,hb13,hg17_2,hg17_5,hg17_12]
       refine hN17 _ ?_; try clear hN17 hD17 N17
       refine WC_condE ?_
       simp only [sS,↓sT,Nat.reduceLT,Nat.reduceEqDiff,↓stepC_bool,hb4,hb8,hb13,hg17_2,hg17_5,hg17_12,Int.reduceBEq,Int.reduceBNe,beq_self_eq_true,bne_self_eq_false]
       refine ⟨fun hb => ?_,fun hb => (by cases hb)⟩
       refine WC_seqR (fun N25 hN25 hD25 => ?_)
       simp only [sS,↓sT,Nat.reduceLT,Nat.reduceEqDiff,↓sO,↓WOps_g,sG,opV,loudV,cellsOf,strOp,evL,Nat.reduceAdd,Int.reduceBEq,Int.reduceBNe,or_self,not_false_eq_true,hyl,hip,hve,hle,hce,vec_cells,all_ints,(vec_load hv),tag_cells,tag_isC,cat_at,cat_set,wr15,op_isC,op_full,op_len,op_cells,opCells,icell_int,icell_str,icell_bool,dropsW_isC,Bool.and_self,load15,load_int,tag_load2,tag_load,tag_fold,opZ_w,List.drop_zero,List.all_cons,List.all_nil,gt_iff_lt,ge_iff_le,List.mem_singleton,List.mem_cons,ti3,ti2,ti9,ti4,ti47,ti38,ti49,ti25,ti23,hb4,hb8,hb13,hg17_2,hg17_5,hg17_12]
       refine hN25 _ ?_; try clear hN25 hD25 N25
       refine WC_ret ?_; (try simp only [Exit.after,Exit.out]); refine Kend_ret (by simp only [resOf,resL,resV,mkS_get,slots_get,cellsOf,load_str,load_bool,load_int,load_slice,ti3,sS,↓sT,Nat.reduceLT,Nat.reduceEqDiff]; rfl) (by first | rfl | (simp only [load_str,load_bool,load_int,load_slice,ti3]; done) | (simp only [load_str,load_bool,load_int,load_slice,ti3,okV,ok1,okC,okP,List.all_cons,List.all_nil,Bool.and_true]; done)) ?_
       clear hN16 hD16 N16
       first
       | rfl
       | (cases hb4; done)
       | (exfalso
          clear hsub hip hyl hyb hyn hF hR hld
          rcases Int.lt_or_le (atL m a c) 0 with hi0 | hi0
          · have e := hfl.1 hi0
            have hz := sameO_refl opZ
            simp_all <;> omega
          · obtain ⟨q,hq,e⟩ := hfl.2 hi0
            have hqp : q = p := by rw [hpl hi0] at hq; exact (Option.some.inj hq).symm
            subst hqp
            have hz : sameO q.own q = true := by rw [sameO_own,sameO_refl]
            simp_all <;> omega)
     ·simp only [sS,↓sT,Nat.reduceLT,Nat.reduceEqDiff,↓sD,↓D_g,memOk,lets0,lets1,List.not_mem_nil,not_false_eq_true,true_and,and_true,sG,opV,loudV,cellsOf,strOp,evL,Nat.reduceAdd,Int.reduceBEq,Int.reduceBNe,ti49,buildV,evParts,V.isCell,List.all_cons,List.all_nil,Bool.and_self,if_true,placesOf,fillV,List.getElem?_cons_zero,List.getElem?_cons_succ,List.length_cons,List.length_nil,Nat.zero_add,ne_eq,not_true_eq_false,false_or,gt_iff_lt,if_false,wrL,Option.map_some,List.set_cons_zero,List.set_cons_succ,ti52,or_self,hyl,hip,hve,hle,hce,vec_cells,all_ints,(vec_load hv),tag_cells,tag_isC,cat_at,cat_set,wr15,op_isC,op_full,op_len,op_cells,opCells,icell_int,icell_str,icell_bool,dropsW_isC,load15,load_int,tag_load2,tag_load,tag_fold,opZ_w,List.drop_zero,ge_iff_le,List.mem_singleton,List.mem_cons,ti3,ti2,ti9,ti4,ti47,ti38,ti25,ti23,hb4,hb8,hb13,hg17_2,hg17_5]
      refine hN17 _ ?_; try clear hN17 hD17 N17
      refine WC_condE ?_
      simp only [sS,↓sT,Nat.reduceLT,Nat.reduceEqDiff,↓stepC_bool,hb4,hb8,hb13,hg17_2,hg17_5,Int.reduceBEq,Int.reduceBNe,beq_self_eq_true,bne_self_eq_false]
      refine ⟨fun hb => ?_,fun hb => (by cases hb)⟩
      refine WC_seqR (fun N26 hN26 hD26 => ?_)
      simp only [sS,↓sT,Nat.reduceLT,Nat.reduceEqDiff,↓sO,↓WOps_g,sG,opV,loudV,cellsOf,strOp,evL,Nat.reduceAdd,Int.reduceBEq,Int.reduceBNe,or_self,not_false_eq_true,hyl,hip,hve,hle,hce,vec_cells,all_ints,(vec_load hv),tag_cells,tag_isC,cat_at,cat_set,wr15,op_isC,op_full,op_len,op_cells,opCells,icell_int,icell_str,icell_bool,dropsW_isC,Bool.and_self,load15,load_int,tag_load2,tag_load,tag_fold,opZ_w,List.drop_zero,List.all_cons,List.all_nil,gt_iff_lt,ge_iff_le,List.mem_singleton,List.mem_cons,ti3,ti2,ti9,ti4,ti47,ti38,ti49,ti25,ti23,hb4,hb8,hb13,hg17_2,hg17_5]
      refine hN26 _ ?_; try clear hN26 hD26 N26
      refine WC_ret ?_; (try simp only [Exit.after,Exit.out]); refine Kend_ret (by simp only [resOf,resL,resV,mkS_get,slots_get,cellsOf,load_str,load_bool,load_int,load_slice,ti3,sS,↓sT,Nat.reduceLT,Nat.reduceEqDiff]; rfl) (by first | rfl | (simp only [load_str,load_bool,load_int,load_slice,ti3]; done) | (simp only [load_str,load_bool,load_int,load_slice,ti3,okV,ok1,okC,okP,List.all_cons,List.all_nil,Bool.and_true]; done)) ?_
      clear hN16 hD16 N16
      first
      | rfl
      | (cases hb4; done)
      | (exfalso
         clear hsub hip hyl hyb hyn hF hR hld
         rcases Int.lt_or_le (atL m a c) 0 with hi0 | hi0
         · have e := hfl.1 hi0
           have hz := sameO_refl opZ
           simp_all <;> omega
         · obtain ⟨q,hq,e⟩ := hfl.2 hi0
           have hqp : q = p := by rw [hpl hi0] at hq; exact (Option.some.inj hq).symm
           subst hqp
           have hz : sameO q.own q = true := by rw [sameO_own,sameO_refl]
           simp_all <;> omega)
    ·simp only [sS,↓sT,Nat.reduceLT,Nat.reduceEqDiff,↓sD,↓D_g,memOk,lets0,lets1,List.not_mem_nil,not_false_eq_true,true_and,and_true,sG,opV,loudV,cellsOf,strOp,evL,Nat.reduceAdd,Int.reduceBEq,Int.reduceBNe,ti49,buildV,evParts,V.isCell,List.all_cons,List.all_nil,Bool.and_self,if_true,placesOf,fillV,List.getElem?_cons_zero,List.getElem?_cons_succ,List.length_cons,List.length_nil,Nat.zero_add,ne_eq,not_true_eq_false,false_or,gt_iff_lt,if_false,wrL,Option.map_some,List.set_cons_zero,List.set_cons_succ,ti52,or_self,hyl,hip,hve,hle,hce,vec_cells,all_ints,(vec_load hv),tag_cells,tag_isC,cat_at,cat_set,wr15,op_isC,op_full,op_len,op_cells,opCells,icell_int,icell_str,icell_bool,dropsW_isC,load15,load_int,tag_load2,tag_load,tag_fold,opZ_w,List.drop_zero,ge_iff_le,List.mem_singleton,List.mem_cons,ti3,ti2,ti9,ti4,ti47,ti38,ti25,ti23,hb4,hb8,hb13,hg17_2]
     refine stepB_T (fun hg17_15 => ?_) (fun hg17_15 => ?_)
     ·simp only [sS,↓sT,Nat.reduceLT,Nat.reduceEqDiff,↓sD,↓D_g,memOk,lets0,lets1,List.not_mem_nil,not_false_eq_true,true_and,and_true,sG,opV,loudV,cellsOf,strOp,evL,Nat.reduceAdd,Int.reduceBEq,Int.reduceBNe,ti49,buildV,evParts,V.isCell,List.all_cons,List.all_nil,Bool.and_self,if_true,placesOf,fillV,List.getElem?_cons_zero,List.getElem?_cons_succ,List.length_cons,List.length_nil,Nat.zero_add,ne_eq,not_true_eq_false,false_or,gt_iff_lt,if_false,wrL,Option.map_some,List.set_cons_zero,List.set_cons_succ,ti52,or_self,hyl,hip,hve,hle,hce,vec_cells,all_ints,(vec_load hv),tag_cells,tag_isC,cat_at,cat_set,wr15,op_isC,op_full,op_len,op_cells,opCells,icell_int,icell_str,icell_bool,dropsW_isC,load15,load_int,tag_load2,tag_load,tag_fold,opZ_w,List.drop_zero,ge_iff_le,List.mem_singleton,List.mem_cons,ti3,ti2,ti9,ti4,ti47,ti38,ti25,ti23,hb4,hb8,hb13,hg17_2,hg17_15]
      refine stepB_F (fun hg17_18 => ?_) (fun hg17_18 => ?_)
      ·simp only [sS,↓sT,Nat.reduceLT,Nat.reduceEqDiff,↓sD,↓D_g,memOk,lets0,lets1,List.not_mem_nil,not_false_eq_true,true_and,and_true,sG,opV,loudV,cellsOf,strOp,evL,Nat.reduceAdd,Int.reduceBEq,Int.reduceBNe,ti49,buildV,evParts,V.isCell,List.all_cons,List.all_nil,Bool.and_self,if_true,placesOf,fillV,List.getElem?_cons_zero,List.getElem?_cons_succ,List.length_cons,List.length_nil,Nat.zero_add,ne_eq,not_true_eq_false,false_or,gt_iff_lt,if_false,wrL,Option.map_some,List.set_cons_zero,List.set_cons_succ,ti52,or_self,hyl,hip,hve,hle,hce,vec_cells,all_ints,(vec_load hv),tag_cells,tag_isC,cat_at,cat_set,wr15,op_isC,op_full,op_len,op_cells,opCells,icell_int,icell_str,icell_bool,dropsW_isC,load15,load_int,tag_load2,tag_load,tag_fold,opZ_w,List.drop_zero,ge_iff_le,List.mem_singleton,List.mem_cons,ti3,ti2,ti9,ti4,ti47,ti38,ti25,ti23,hb4,hb8,hb13,hg17_2,hg17_15,hg17_18]
       refine D_callP (c_punnet_punnetref20_Same (findS Ls a c).1 p (by show (findS Ls a c).1.drops.l.length ≤ _; unfold maxApp at hfd; omega)) (by simp only [ev_func]) (by simp only [evL,sS,↓sT,Nat.reduceLT,Nat.reduceEqDiff]; rfl) (by first | rfl | (simp only [List.map,vec_bare,tag_bare,hx.bare,op_bare,hyb]; done) | (simp only [List.map,vec_bare,tag_bare,hx.bare,op_bare,hyb]; exact rfl)) (by first | rfl | simp [vec_noP,tag_noP,hx.noP,noP_int,op_noP,hyn]) (by first | rfl | simp [vec_noP,tag_noP,hx.noP,noP_int,op_noP,hyn]) (by first | exact op_bare _ | exact vec_bare _ | rfl) ?_
       simp only [sS,↓sT,Nat.reduceLT,Nat.reduceEqDiff,↓sD,↓D_g,memOk,lets0,lets1,List.not_mem_nil,not_false_eq_true,true_and,and_true,sG,opV,loudV,cellsOf,strOp,evL,Nat.reduceAdd,Int.reduceBEq,Int.reduceBNe,ti49,buildV,evParts,V.isCell,List.all_cons,List.all_nil,Bool.and_self,if_true,placesOf,fillV,List.getElem?_cons_zero,List.getElem?_cons_succ,List.length_cons,List.length_nil,Nat.zero_add,ne_eq,not_true_eq_false,false_or,gt_iff_lt,if_false,wrL,Option.map_some,List.set_cons_zero,List.set_cons_succ,ti52,or_self,hyl,hip,hve,hle,hce,vec_cells,all_ints,(vec_load hv),tag_cells,tag_isC,cat_at,cat_set,wr15,op_isC,op_full,op_len,op_cells,opCells,icell_int,icell_str,icell_bool,dropsW_isC,load15,load_int,tag_load2,tag_load,tag_fold,opZ_w,List.drop_zero,ge_iff_le,List.mem_singleton,List.mem_cons,ti3,ti2,ti9,ti4,ti47,ti38,ti25,ti23,hb4,hb8,hb13,hg17_2,hg17_15,hg17_18]
       refine hN17 _ ?_; try clear hN17 hD17 N17
       refine WC_condE ?_
       simp only [sS,↓sT,Nat.reduceLT,Nat.reduceEqDiff,↓stepC_bool,hb4,hb8,hb13,hg17_2,hg17_15,hg17_18,Int.reduceBEq,Int.reduceBNe,beq_self_eq_true,bne_self_eq_false]
       refine ⟨fun hb27 => ?_,fun hb27 => ?_⟩
       ·refine WC_seqR (fun N28 hN28 hD28 => ?_)
        simp only [sS,↓sT,Nat.reduceLT,Nat.reduceEqDiff,↓sO,↓WOps_g,sG,opV,loudV,cellsOf,strOp,evL,Nat.reduceAdd,Int.reduceBEq,Int.reduceBNe,or_self,not_false_eq_true,hyl,hip,hve,hle,hce,vec_cells,all_ints,(vec_load hv),tag_cells,tag_isC,cat_at,cat_set,wr15,op_isC,op_full,op_len,op_cells,opCells,icell_int,icell_str,icell_bool,dropsW_isC,Bool.and_self,load15,load_int,tag_load2,tag_load,tag_fold,opZ_w,List.drop_zero,List.all_cons,List.all_nil,gt_iff_lt,ge_iff_le,List.mem_singleton,List.mem_cons,ti3,ti2,ti9,ti4,ti47,ti38,ti49,ti25,ti23,hb4,hb8,hb13,hg17_2,hg17_15,hg17_18,hb27]
        refine hN28 _ ?_; try clear hN28 hD28 N28
        refine WC_ret ?_; (try simp only [Exit.after,Exit.out]); refine Kend_ret (by simp only [resOf,resL,resV,mkS_get,slots_get,cellsOf,load_str,load_bool,load_int,load_slice,ti3,sS,↓sT,Nat.reduceLT,Nat.reduceEqDiff]; rfl) (by first | rfl | (simp only [load_str,load_bool,load_int,load_slice,ti3]; done) | (simp only [load_str,load_bool,load_int,load_slice,ti3,okV,ok1,okC,okP,List.all_cons,List.all_nil,Bool.and_true]; done)) ?_
        clear hN16 hD16 N16
        first
        | rfl
        | (cases hb4; done)
        | (exfalso
           clear hsub hip hyl hyb hyn hF hR hld
           rcases Int.lt_or_le (atL m a c) 0 with hi0 | hi0
           · have e := hfl.1 hi0
             have hz := sameO_refl opZ
             simp_all <;> omega
           · obtain ⟨q,hq,e⟩ := hfl.2 hi0
             have hqp : q = p := by rw [hpl hi0] at hq; exact (Option.some.inj hq).symm
             subst hqp
             have hz : sameO q.own q = true := by rw [sameO_own,sameO_refl]
             simp_all <;> omega)
       ·refine WC_skip ?_
        refine hN16 _ ?_; try clear hN16 hD16 N16
        refine WC_seqR (fun N29 hN29 hD29 => ?_)
        simp only [sS,↓sT,Nat.reduceLT,Nat.reduceEqDiff,↓sO,↓WOps_g,sG,opV,loudV,cellsOf,strOp,evL,Nat.reduceAdd,Int.reduceBEq,Int.reduceBNe,or_self,not_false_eq_true,hyl,hip,hve,hle,hce,vec_cells,all_ints,(vec_load hv),tag_cells,tag_isC,cat_at,cat_set,wr15,op_isC,op_full,op_len,op_cells,opCells,icell_int,icell_str,icell_bool,dropsW_isC,Bool.and_self,load15,load_int,tag_load2,tag_load,tag_fold,opZ_w,List.drop_zero,List.all_cons,List.all_nil,gt_iff_lt,ge_iff_le,List.mem_singleton,List.mem_cons,ti3,ti2,ti9,ti4,ti47,ti38,ti49,ti25,ti23,hb4,hb8,hb13,hg17_2,hg17_15,hg17_18,hb27]
        refine WOps_copyB (b := 2) hF (by simp only [ev_func]) (by first | (simp only [evL,sS,↓sT,Nat.reduceLT,Nat.reduceEqDiff]; done) | (simp only [evL,sS,↓sT,Nat.reduceLT,Nat.reduceEqDiff]; rfl)) rfl (fun ds2 ow2 n2 hP2 hT2 => ?_)
        have hlens : ∀ l ∈ Ls,l.length ≤ 400 := fun l hl => by have := len_tot hl; have := hR.tt; omega
        have hle := len_eq hR hm60
        have hve := vec_eq (a := haveL Ls) (b := haveL Ls) hF.p.bare.len hF.p.bare.len
        have cH := c_punnet_punnetref26_Have m y hF.y (by omega) (fun o ho => by obtain ⟨r1,r6,_⟩ := right_facts (hR.right o ho); exact ⟨r1,r6⟩)
        rw [← have_eq hR] at cH
        have cC := h__punnet_pool_Pool_Clock Ls ds hF.p hF.t hF.d hlens
        rw [clock_eq hF.c hm60] at cC
        have hPs : PS (sortL m) (.slice 15 ((sortL m).map opW) (m.length == 0) none) := .inr ⟨_,rfl⟩
        have hPr : PS (refSince m v most) (.slice 15 ((refSince m v most).map opW) ((refSince m v most).length == 0) none) := .inr ⟨_,rfl⟩
        have cS1 := c_punnet_punnetref20_SameOps _ _ _ _ (opsV_PS (sinceL Ls zeroV 400)) hPs (since_len _ _) (since_drops hF.d)
        rw [show sameOps (sinceL Ls zeroV 400) (sortL m) = true from by rw [ops_eq hF.c hm60,sameOps_own]] at cS1
        have cS2 := c_punnet_punnetref20_SameOps _ _ _ _ (opsV_PS (sinceL Ls zeroV 400)) (opsV_PS (sinceL Ls zeroV 400)) (since_len _ _) (since_drops hF.d)
        rw [sameOps_refl] at cS2
        have cS3 := c_punnet_punnetref20_SameOps _ _ _ _ (opsV_PS (sinceL Ls v most)) hPr (by rw [sinceL,List.length_take]; have := part_le hR v; unfold maxLen; omega) (since_drops hF.d)
        rw [show sameOps (sinceL Ls v most) (refSince m v most) = true from by rw [since_eq hF.c,sameOps_own]] at cS3
        have ob1 := (opsV_PS (sinceL Ls zeroV 400)).bare
        have ob2 := (opsV_PS (sinceL Ls v most)).bare
        have on1 := (opsV_PS (sinceL Ls zeroV 400)).noP
        have on2 := (opsV_PS (sinceL Ls v most)).noP
        clear hfl hfd hip hp hpl
        simp only [sS,↓sT,Nat.reduceLT,Nat.reduceEqDiff,↓sO,↓WOps_g,sG,opV,loudV,cellsOf,strOp,evL,Nat.reduceAdd,Int.reduceBEq,Int.reduceBNe,or_self,not_false_eq_true,hyl,hip,hve,hle,hce,vec_cells,all_ints,(vec_load hv),tag_cells,tag_isC,cat_at,cat_set,wr15,op_isC,op_full,op_len,op_cells,opCells,icell_int,icell_str,icell_bool,dropsW_isC,Bool.and_self,load15,load_int,tag_load2,tag_load,tag_fold,opZ_w,List.drop_zero,List.all_cons,List.all_nil,gt_iff_lt,ge_iff_le,List.mem_singleton,List.mem_cons,ti3,ti2,ti9,ti4,ti47,ti38,ti49,ti25,ti23,hb4,hb8,hb13,hg17_2,hg17_15,hg17_18,hb27]
        refine hN29 _ ?_; try clear hN29 hD29 N29
        refine WC_seqD mixed [2] [0,0,0,0,0,0,0,0,0,0,0,0,0,0,0,0,1,0,0,0,0,0,0,0,0,0,0,0,0,0,0,0,0,0,0,0,0,0,0,0,0,0,0,0,0] (by decide +kernel) (fun N30 hN30 hD30 => ?_)
        simp only [sS,↓sT,Nat.reduceLT,Nat.reduceEqDiff,↓sD,↓D_g,memOk,lets0,lets1,List.not_mem_nil,not_false_eq_true,true_and,and_true,sG,opV,loudV,cellsOf,strOp,evL,Nat.reduceAdd,Int.reduceBEq,Int.reduceBNe,ti23,ti52,or_self,hyl,hip,hve,hle,hce,vec_cells,all_ints,(vec_load hv),tag_cells,tag_isC,cat_at,cat_set,wr15,op_isC,op_full,op_len,op_cells,opCells,icell_int,icell_str,icell_bool,dropsW_isC,Bool.and_self,load15,load_int,tag_load2,tag_load,tag_fold,opZ_w,List.drop_zero,List.all_cons,List.all_nil,gt_iff_lt,ge_iff_le,List.mem_singleton,List.mem_cons,ti3,ti2,ti9,ti4,ti47,ti38,ti49,ti25,hb4,hb8,hb13,hg17_2,hg17_15,hg17_18,hb27]
        refine D_callB (b := 2) (ys := []) (h__punnet_pool_Pool_Ops Ls ds hF.p hF.d hlens) hF.p hF.t (fun y hy => absurd hy List.not_mem_nil) (opsV_facts _).1 (opsV_facts _).2.1 (by simp [limOf,Lim.lets]) (by simp only [ev_func]) (by first | (simp only [evL,sS,↓sT,Nat.reduceLT,Nat.reduceEqDiff]; done) | (simp only [evL,sS,↓sT,Nat.reduceLT,Nat.reduceEqDiff]; rfl)) rfl (fun ow3 n3 hsub3 => ?_)
        simp only [sS,↓sT,Nat.reduceLT,Nat.reduceEqDiff,↓sD,↓D_g,memOk,lets0,lets1,List.not_mem_nil,not_false_eq_true,true_and,and_true,sG,opV,loudV,cellsOf,strOp,evL,Nat.reduceAdd,Int.reduceBEq,Int.reduceBNe,ti23,ti52,or_self,hyl,hip,hve,hle,hce,vec_cells,all_ints,(vec_load hv),tag_cells,tag_isC,cat_at,cat_set,wr15,op_isC,op_full,op_len,op_cells,opCells,icell_int,icell_str,icell_bool,dropsW_isC,Bool.and_self,load15,load_int,tag_load2,tag_load,tag_fold,opZ_w,List.drop_zero,List.all_cons,List.all_nil,gt_iff_lt,ge_iff_le,List.mem_singleton,List.mem_cons,ti3,ti2,ti9,ti4,ti47,ti38,ti49,ti25,hb4,hb8,hb13,hg17_2,hg17_15,hg17_18,hb27]
        refine D_callP (c_punnet_punnetref26_Sorted m y hF.y (by omega)) (by simp only [ev_func]) (by simp only [evL,sS,↓sT,Nat.reduceLT,Nat.reduceEqDiff]; rfl) (by first | rfl | (simp only [List.map,vec_bare,tag_bare,hx.bare,op_bare,hyb]; done) | (simp only [List.map,vec_bare,tag_bare,hx.bare,op_bare,hyb]; exact rfl)) (by first | rfl | simp [vec_noP,tag_noP,hx.noP,noP_int,op_noP,hyn]) (by first | rfl | simp [vec_noP,tag_noP,hx.noP,noP_int,op_noP,hyn]) (by first | exact op_bare _ | exact vec_bare _ | rfl) ?_
        simp only [sS,↓sT,Nat.reduceLT,Nat.reduceEqDiff,↓sD,↓D_g,memOk,lets0,lets1,List.not_mem_nil,not_false_eq_true,true_and,and_true,sG,opV,loudV,cellsOf,strOp,evL,Nat.reduceAdd,Int.reduceBEq,Int.reduceBNe,ti23,ti52,or_self,hyl,hip,hve,hle,hce,vec_cells,all_ints,(vec_load hv),tag_cells,tag_isC,cat_at,cat_set,wr15,op_isC,op_full,op_len,op_cells,opCells,icell_int,icell_str,icell_bool,dropsW_isC,Bool.and_self,load15,load_int,tag_load2,tag_load,tag_fold,opZ_w,List.drop_zero,List.all_cons,List.all_nil,gt_iff_lt,ge_iff_le,List.mem_singleton,List.mem_cons,ti3,ti2,ti9,ti4,ti47,ti38,ti49,ti25,hb4,hb8,hb13,hg17_2,hg17_15,hg17_18,hb27]
        refine D_callP cS1 (by simp only [ev_func]) (by simp only [evL,sS,↓sT,Nat.reduceLT,Nat.reduceEqDiff]; rfl) (by first | (simp only [List.map_cons,List.map_nil,ob1]; done) | (simp only [List.map_cons,List.map_nil,ob1]; rfl)) (by simp only [List.all_cons,on1]; rfl) rfl rfl ?_
        simp only [sS,↓sT,Nat.reduceLT,Nat.reduceEqDiff,↓sD,↓D_g,memOk,lets0,lets1,List.not_mem_nil,not_false_eq_true,true_and,and_true,sG,opV,loudV,cellsOf,strOp,evL,Nat.reduceAdd,Int.reduceBEq,Int.reduceBNe,ti23,ti52,or_self,hyl,hip,hve,hle,hce,vec_cells,all_ints,(vec_load hv),tag_cells,tag_isC,cat_at,cat_set,wr15,op_isC,op_full,op_len,op_cells,opCells,icell_int,icell_str,icell_bool,dropsW_isC,Bool.and_self,load15,load_int,tag_load2,tag_load,tag_fold,opZ_w,List.drop_zero,List.all_cons,List.all_nil,gt_iff_lt,ge_iff_le,List.mem_singleton,List.mem_cons,ti3,ti2,ti9,ti4,ti47,ti38,ti49,ti25,hb4,hb8,hb13,hg17_2,hg17_15,hg17_18,hb27]
        refine D_callB (b := 4) (ys := []) (h__punnet_pool_Pool_Ops Ls ds2 hP2 hF.d hlens) hP2 hT2 (fun y hy => absurd hy List.not_mem_nil) (opsV_facts _).1 (opsV_facts _).2.1 (by simp [limOf,Lim.lets]) (by simp only [ev_func]) (by first | (simp only [evL,sS,↓sT,Nat.reduceLT,Nat.reduceEqDiff]; done) | (simp only [evL,sS,↓sT,Nat.reduceLT,Nat.reduceEqDiff]; rfl)) rfl (fun ow3 n3 hsub3 => ?_)
        simp only [sS,↓sT,Nat.reduceLT,Nat.reduceEqDiff,↓sD,↓D_g,memOk,lets0,lets1,List.not_mem_nil,not_false_eq_true,true_and,and_true,sG,opV,loudV,cellsOf,strOp,evL,Nat.reduceAdd,Int.reduceBEq,Int.reduceBNe,ti23,ti52,or_self,hyl,hip,hve,hle,hce,vec_cells,all_ints,(vec_load hv),tag_cells,tag_isC,cat_at,cat_set,wr15,op_isC,op_full,op_len,op_cells,opCells,icell_int,icell_str,icell_bool,dropsW_isC,Bool.and_self,load15,load_int,tag_load2,tag_load,tag_fold,opZ_w,List.drop_zero,List.all_cons,List.all_nil,gt_iff_lt,ge_iff_le,List.mem_singleton,List.mem_cons,ti3,ti2,ti9,ti4,ti47,ti38,ti49,ti25,hb4,hb8,hb13,hg17_2,hg17_15,hg17_18,hb27]
        refine D_callB (b := 2) (ys := []) (h__punnet_pool_Pool_Ops Ls ds hF.p hF.d hlens) hF.p hF.t (fun y hy => absurd hy List.not_mem_nil) (opsV_facts _).1 (opsV_facts _).2.1 (by simp [limOf,Lim.lets]) (by simp only [ev_func]) (by first | (simp only [evL,sS,↓sT,Nat.reduceLT,Nat.reduceEqDiff]; done) | (simp only [evL,sS,↓sT,Nat.reduceLT,Nat.reduceEqDiff]; rfl)) rfl (fun ow3 n3 hsub3 => ?_)
        simp only [sS,↓sT,Nat.reduceLT,Nat.reduceEqDiff,↓sD,↓D_g,memOk,lets0,lets1,List.not_mem_nil,not_false_eq_true,true_and,and_true,sG,opV,loudV,cellsOf,strOp,evL,Nat.reduceAdd,Int.reduceBEq,Int.reduceBNe,ti23,ti52,or_self,hyl,hip,hve,hle,hce,vec_cells,all_ints,(vec_load hv),tag_cells,tag_isC,cat_at,cat_set,wr15,op_isC,op_full,op_len,op_cells,opCells,icell_int,icell_str,icell_bool,dropsW_isC,Bool.and_self,load15,load_int,tag_load2,tag_load,tag_fold,opZ_w,List.drop_zero,List.all_cons,List.all_nil,gt_iff_lt,ge_iff_le,List.mem_singleton,List.mem_cons,ti3,ti2,ti9,ti4,ti47,ti38,ti49,ti25,hb4,hb8,hb13,hg17_2,hg17_15,hg17_18,hb27]
        refine D_callP cS2 (by simp only [ev_func]) (by simp only [evL,sS,↓sT,Nat.reduceLT,Nat.reduceEqDiff]; rfl) (by first | (simp only [List.map_cons,List.map_nil,ob1]; done) | (simp only [List.map_cons,List.map_nil,ob1]; rfl)) (by simp only [List.all_cons,on1]; rfl) rfl rfl ?_
        simp only [sS,↓sT,Nat.reduceLT,Nat.reduceEqDiff,↓sD,↓D_g,memOk,lets0,lets1,List.not_mem_nil,not_false_eq_true,true_and,and_true,sG,opV,loudV,cellsOf,strOp,evL,Nat.reduceAdd,Int.reduceBEq,Int.reduceBNe,ti23,ti52,or_self,hyl,hip,hve,hle,hce,vec_cells,all_ints,(vec_load hv),tag_cells,tag_isC,cat_at,cat_set,wr15,op_isC,op_full,op_len,op_cells,opCells,icell_int,icell_str,icell_bool,dropsW_isC,Bool.and_self,load15,load_int,tag_load2,tag_load,tag_fold,opZ_w,List.drop_zero,List.all_cons,List.all_nil,gt_iff_lt,ge_iff_le,List.mem_singleton,List.mem_cons,ti3,ti2,ti9,ti4,ti47,ti38,ti49,ti25,hb4,hb8,hb13,hg17_2,hg17_15,hg17_18,hb27]
        refine D_callB (b := 2) (ys := [vecV v, .int .i64 most]) (by rw [vec_bare1L]; exact h__punnet_pool_Pool_Since Ls ds hF.p v hv most hF.d hlens) hF.p hF.t (by intro y hy; simp only [List.mem_cons,List.not_mem_nil,or_false] at hy; rcases hy with rfl | rfl; exact vec_noP v; rfl) (opsV_facts _).1 (opsV_facts _).2.1 (by simp [limOf,Lim.lets]) (by simp only [ev_func]) (by first | (simp only [evL,sS,↓sT,Nat.reduceLT,Nat.reduceEqDiff]; done) | (simp only [evL,sS,↓sT,Nat.reduceLT,Nat.reduceEqDiff]; rfl)) rfl (fun ow3 n3 hsub3 => ?_)
        simp only [sS,↓sT,Nat.reduceLT,Nat.reduceEqDiff,↓sD,↓D_g,memOk,lets0,lets1,List.not_mem_nil,not_false_eq_true,true_and,and_true,sG,opV,loudV,cellsOf,strOp,evL,Nat.reduceAdd,Int.reduceBEq,Int.reduceBNe,ti23,ti52,or_self,hyl,hip,hve,hle,hce,vec_cells,all_ints,(vec_load hv),tag_cells,tag_isC,cat_at,cat_set,wr15,op_isC,op_full,op_len,op_cells,opCells,icell_int,icell_str,icell_bool,dropsW_isC,Bool.and_self,load15,load_int,tag_load2,tag_load,tag_fold,opZ_w,List.drop_zero,List.all_cons,List.all_nil,gt_iff_lt,ge_iff_le,List.mem_singleton,List.mem_cons,ti3,ti2,ti9,ti4,ti47,ti38,ti49,ti25,hb4,hb8,hb13,hg17_2,hg17_15,hg17_18,hb27]
        refine D_callP (c_punnet_punnetref26_Since m y hF.y (by omega) v hv most) (by simp only [ev_func]) (by simp only [evL,sS,↓sT,Nat.reduceLT,Nat.reduceEqDiff]; rfl) (by first | rfl | (simp only [List.map,vec_bare,tag_bare,hx.bare,op_bare,hyb]; done) | (simp only [List.map,vec_bare,tag_bare,hx.bare,op_bare,hyb]; exact rfl)) (by first | rfl | simp [vec_noP,tag_noP,hx.noP,noP_int,op_noP,hyn]) (by first | rfl | simp [vec_noP,tag_noP,hx.noP,noP_int,op_noP,hyn]) (by first | exact op_bare _ | exact vec_bare _ | rfl) ?_
        simp only [sS,↓sT,Nat.reduceLT,Nat.reduceEqDiff,↓sD,↓D_g,memOk,lets0,lets1,List.not_mem_nil,not_false_eq_true,true_and,and_true,sG,opV,loudV,cellsOf,strOp,evL,Nat.reduceAdd,Int.reduceBEq,Int.reduceBNe,ti23,ti52,or_self,hyl,hip,hve,hle,hce,vec_cells,all_ints,(vec_load hv),tag_cells,tag_isC,cat_at,cat_set,wr15,op_isC,op_full,op_len,op_cells,opCells,icell_int,icell_str,icell_bool,dropsW_isC,Bool.and_self,load15,load_int,tag_load2,tag_load,tag_fold,opZ_w,List.drop_zero,List.all_cons,List.all_nil,gt_iff_lt,ge_iff_le,List.mem_singleton,List.mem_cons,ti3,ti2,ti9,ti4,ti47,ti38,ti49,ti25,hb4,hb8,hb13,hg17_2,hg17_15,hg17_18,hb27]
        refine D_callP cS3 (by simp only [ev_func]) (by simp only [evL,sS,↓sT,Nat.reduceLT,Nat.reduceEqDiff]; rfl) (by first | (simp only [List.map_cons,List.map_nil,ob2]; done) | (simp only [List.map_cons,List.map_nil,ob2]; rfl)) (by simp only [List.all_cons,on2]; rfl) rfl rfl ?_
        simp only [sS,↓sT,Nat.reduceLT,Nat.reduceEqDiff,↓sD,↓D_g,memOk,lets0,lets1,List.not_mem_nil,not_false_eq_true,true_and,and_true,sG,opV,loudV,cellsOf,strOp,evL,Nat.reduceAdd,Int.reduceBEq,Int.reduceBNe,ti23,ti52,or_self,hyl,hip,hve,hle,hce,vec_cells,all_ints,(vec_load hv),tag_cells,tag_isC,cat_at,cat_set,wr15,op_isC,op_full,op_len,op_cells,opCells,icell_int,icell_str,icell_bool,dropsW_isC,Bool.and_self,load15,load_int,tag_load2,tag_load,tag_fold,opZ_w,List.drop_zero,List.all_cons,List.all_nil,gt_iff_lt,ge_iff_le,List.mem_singleton,List.mem_cons,ti3,ti2,ti9,ti4,ti47,ti38,ti49,ti25,hb4,hb8,hb13,hg17_2,hg17_15,hg17_18,hb27]
        refine D_callL (xs := [.ptr 2 0]) (c_have hF.p.bare) ?_ ?_ ?_ ?_ (vec_pl _) ?_
        · omega
        · simp only [ev_func]
        · first | (simp only [evL,sS,↓sT,Nat.reduceLT,Nat.reduceEqDiff]; done) | (simp only [evL,sS,↓sT,Nat.reduceLT,Nat.reduceEqDiff]; rfl)
        · exact hF.p.lentAt (b := 2) rfl
        simp only [sS,↓sT,Nat.reduceLT,Nat.reduceEqDiff,↓sD,↓D_g,memOk,lets0,lets1,List.not_mem_nil,not_false_eq_true,true_and,and_true,sG,opV,loudV,cellsOf,strOp,evL,Nat.reduceAdd,Int.reduceBEq,Int.reduceBNe,ti23,ti52,or_self,hyl,hip,hve,hle,hce,vec_cells,all_ints,(vec_load hv),tag_cells,tag_isC,cat_at,cat_set,wr15,op_isC,op_full,op_len,op_cells,opCells,icell_int,icell_str,icell_bool,dropsW_isC,Bool.and_self,load15,load_int,tag_load2,tag_load,tag_fold,opZ_w,List.drop_zero,List.all_cons,List.all_nil,gt_iff_lt,ge_iff_le,List.mem_singleton,List.mem_cons,ti3,ti2,ti9,ti4,ti47,ti38,ti49,ti25,hb4,hb8,hb13,hg17_2,hg17_15,hg17_18,hb27]
        refine D_callP cH (by simp only [ev_func]) (by simp only [evL,sS,↓sT,Nat.reduceLT,Nat.reduceEqDiff]; rfl) (by first | rfl | (simp only [List.map,vec_bare,tag_bare,hx.bare,op_bare,hyb]; done) | (simp only [List.map,vec_bare,tag_bare,hx.bare,op_bare,hyb]; exact rfl)) (by first | rfl | simp [vec_noP,tag_noP,hx.noP,noP_int,op_noP,hyn]) (by first | rfl | simp [vec_noP,tag_noP,hx.noP,noP_int,op_noP,hyn]) (by first | exact op_bare _ | exact vec_bare _ | rfl) ?_
        simp only [sS,↓sT,Nat.reduceLT,Nat.reduceEqDiff,↓sD,↓D_g,memOk,lets0,lets1,List.not_mem_nil,not_false_eq_true,true_and,and_true,sG,opV,loudV,cellsOf,strOp,evL,Nat.reduceAdd,Int.reduceBEq,Int.reduceBNe,ti23,ti52,or_self,hyl,hip,hve,hle,hce,vec_cells,all_ints,(vec_load hv),tag_cells,tag_isC,cat_at,cat_set,wr15,op_isC,op_full,op_len,op_cells,opCells,icell_int,icell_str,icell_bool,dropsW_isC,Bool.and_self,load15,load_int,tag_load2,tag_load,tag_fold,opZ_w,List.drop_zero,List.all_cons,List.all_nil,gt_iff_lt,ge_iff_le,List.mem_singleton,List.mem_cons,ti3,ti2,ti9,ti4,ti47,ti38,ti49,ti25,hb4,hb8,hb13,hg17_2,hg17_15,hg17_18,hb27]
        refine D_callL (xs := [.ptr 2 0]) (c__punnet_pool_Pool_Len Ls (ds.map V.bareC) hF.p.bare) ?_ ?_ ?_ ?_ rfl ?_
        · omega
        · simp only [ev_func]
        · first | (simp only [evL,sS,↓sT,Nat.reduceLT,Nat.reduceEqDiff]; done) | (simp only [evL,sS,↓sT,Nat.reduceLT,Nat.reduceEqDiff]; rfl)
        · exact hF.p.lentAt (b := 2) rfl
        simp only [sS,↓sT,Nat.reduceLT,Nat.reduceEqDiff,↓sD,↓D_g,memOk,lets0,lets1,List.not_mem_nil,not_false_eq_true,true_and,and_true,sG,opV,loudV,cellsOf,strOp,evL,Nat.reduceAdd,Int.reduceBEq,Int.reduceBNe,ti23,ti52,or_self,hyl,hip,hve,hle,hce,vec_cells,all_ints,(vec_load hv),tag_cells,tag_isC,cat_at,cat_set,wr15,op_isC,op_full,op_len,op_cells,opCells,icell_int,icell_str,icell_bool,dropsW_isC,Bool.and_self,load15,load_int,tag_load2,tag_load,tag_fold,opZ_w,List.drop_zero,List.all_cons,List.all_nil,gt_iff_lt,ge_iff_le,List.mem_singleton,List.mem_cons,ti3,ti2,ti9,ti4,ti47,ti38,ti49,ti25,hb4,hb8,hb13,hg17_2,hg17_15,hg17_18,hb27]
        refine D_callB (b := 2) (ys := []) cC hF.p hF.t (fun y hy => absurd hy List.not_mem_nil) rfl rfl (by simp [limOf,Lim.lets]) (by simp only [ev_func]) (by first | (simp only [evL,sS,↓sT,Nat.reduceLT,Nat.reduceEqDiff]; done) | (simp only [evL,sS,↓sT,Nat.reduceLT,Nat.reduceEqDiff]; rfl)) rfl (fun ow3 n3 hsub3 => ?_)
        simp only [sS,↓sT,Nat.reduceLT,Nat.reduceEqDiff,↓sD,↓D_g,memOk,lets0,lets1,List.not_mem_nil,not_false_eq_true,true_and,and_true,sG,opV,loudV,cellsOf,strOp,evL,Nat.reduceAdd,Int.reduceBEq,Int.reduceBNe,ti23,ti52,or_self,hyl,hip,hve,hle,hce,vec_cells,all_ints,(vec_load hv),tag_cells,tag_isC,cat_at,cat_set,wr15,op_isC,op_full,op_len,op_cells,opCells,icell_int,icell_str,icell_bool,dropsW_isC,Bool.and_self,load15,load_int,tag_load2,tag_load,tag_fold,opZ_w,List.drop_zero,List.all_cons,List.all_nil,gt_iff_lt,ge_iff_le,List.mem_singleton,List.mem_cons,ti3,ti2,ti9,ti4,ti47,ti38,ti49,ti25,hb4,hb8,hb13,hg17_2,hg17_15,hg17_18,hb27]
        refine D_callP (c_punnet_punnetref26_Clock m y hF.y (by omega)) (by simp only [ev_func]) (by simp only [evL,sS,↓sT,Nat.reduceLT,Nat.reduceEqDiff]; rfl) (by first | rfl | (simp only [List.map,vec_bare,tag_bare,hx.bare,op_bare,hyb]; done) | (simp only [List.map,vec_bare,tag_bare,hx.bare,op_bare,hyb]; exact rfl)) (by first | rfl | simp [vec_noP,tag_noP,hx.noP,noP_int,op_noP,hyn]) (by first | rfl | simp [vec_noP,tag_noP,hx.noP,noP_int,op_noP,hyn]) (by first | exact op_bare _ | exact vec_bare _ | rfl) ?_
        simp only [sS,↓sT,Nat.reduceLT,Nat.reduceEqDiff,↓sD,↓D_g,memOk,lets0,lets1,List.not_mem_nil,not_false_eq_true,true_and,and_true,sG,opV,loudV,cellsOf,strOp,evL,Nat.reduceAdd,Int.reduceBEq,Int.reduceBNe,ti23,ti52,or_self,hyl,hip,hve,hle,hce,vec_cells,all_ints,(vec_load hv),tag_cells,tag_isC,cat_at,cat_set,wr15,op_isC,op_full,op_len,op_cells,opCells,icell_int,icell_str,icell_bool,dropsW_isC,Bool.and_self,load15,load_int,tag_load2,tag_load,tag_fold,opZ_w,List.drop_zero,List.all_cons,List.all_nil,gt_iff_lt,ge_iff_le,List.mem_singleton,List.mem_cons,ti3,ti2,ti9,ti4,ti47,ti38,ti49,ti25,hb4,hb8,hb13,hg17_2,hg17_15,hg17_18,hb27]
        refine hN30 _ ?_; try clear hN30 hD30 N30
        refine WC_ret ?_; (try simp only [Exit.after,Exit.out]); refine Kend_ret (by simp only [resOf,resL,resV,mkS_get,slots_get,cellsOf,load_str,load_bool,load_int,load_slice,ti3,sS,↓sT,Nat.reduceLT,Nat.reduceEqDiff]; rfl) (by first | rfl | (simp only [load_str,load_bool,load_int,load_slice,ti3]; done) | (simp only [load_str,load_bool,load_int,load_slice,ti3,okV,ok1,okC,okP,List.all_cons,List.all_nil,Bool.and_true]; done)) ?_
        first
        | rfl
        | (cases hb4; done)
        | (exfalso
           clear hsub hip hyl hyb hyn hF hR hld
           rcases Int.lt_or_le (atL m a c) 0 with hi0 | hi0
           · have e := hfl.1 hi0
             have hz := sameO_refl opZ
             simp_all <;> omega
           · obtain ⟨q,hq,e⟩ := hfl.2 hi0
             have hqp : q = p := by rw [hpl hi0] at hq; exact (Option.some.inj hq).symm
             subst hqp
             have hz : sameO q.own q = true := by rw [sameO_own,sameO_refl]
             simp_all <;> omega)
      ·simp only [sS,↓sT,Nat.reduceLT,Nat.reduceEqDiff,↓sD,↓D_g,memOk,lets0,lets1,List.not_mem_nil,not_false_eq_true,true_and,and_true,sG,opV,loudV,cellsOf,strOp,evL,Nat.reduceAdd,Int.reduceBEq,Int.reduceBNe,ti49,buildV,evParts,V.isCell,List.all_cons,List.all_nil,Bool.and_self,if_true,placesOf,fillV,List.getElem?_cons_zero,List.getElem?_cons_succ,List.length_cons,List.length_nil,Nat.zero_add,ne_eq,not_true_eq_false,false_or,gt_iff_lt,if_false,wrL,Option.map_some,List.set_cons_zero,List.set_cons_succ,ti52,or_self,hyl,hip,hve,hle,hce,vec_cells,all_ints,(vec_load hv),tag_cells,tag_isC,cat_at,cat_set,wr15,op_isC,op_full,op_len,op_cells,opCells,icell_int,icell_str,icell_bool,dropsW_isC,load15,load_int,tag_load2,tag_load,tag_fold,opZ_w,List.drop_zero,ge_iff_le,List.mem_singleton,List.mem_cons,ti3,ti2,ti9,ti4,ti47,ti38,ti25,ti23,hb4,hb8,hb13,hg17_2,hg17_15,hg17_18]
       refine hN17 _ ?_; try clear hN17 hD17 N17
       refine WC_condE ?_
       simp only [sS,↓sT,Nat.reduceLT,Nat.reduceEqDiff,↓stepC_bool,hb4,hb8,hb13,hg17_2,hg17_15,hg17_18,Int.reduceBEq,Int.reduceBNe,beq_self_eq_true,bne_self_eq_false]
       refine ⟨fun hb => ?_,fun hb => (by cases hb)⟩
       refine WC_seqR (fun N31 hN31 hD31 => ?_)
       simp only [sS,↓sT,Nat.reduceLT,Nat.reduceEqDiff,↓sO,↓WOps_g,sG,opV,loudV,cellsOf,strOp,evL,Nat.reduceAdd,Int.reduceBEq,Int.reduceBNe,or_self,not_false_eq_true,hyl,hip,hve,hle,hce,vec_cells,all_ints,(vec_load hv),tag_cells,tag_isC,cat_at,cat_set,wr15,op_isC,op_full,op_len,op_cells,opCells,icell_int,icell_str,icell_bool,dropsW_isC,Bool.and_self,load15,load_int,tag_load2,tag_load,tag_fold,opZ_w,List.drop_zero,List.all_cons,List.all_nil,gt_iff_lt,ge_iff_le,List.mem_singleton,List.mem_cons,ti3,ti2,ti9,ti4,ti47,ti38,ti49,ti25,ti23,hb4,hb8,hb13,hg17_2,hg17_15,hg17_18]
       refine hN31 _ ?_; try clear hN31 hD31 N31
       refine WC_ret ?_; (try simp only [Exit.after,Exit.out]); refine Kend_ret (by simp only [resOf,resL,resV,mkS_get,slots_get,cellsOf,load_str,load_bool,load_int,load_slice,ti3,sS,↓sT,Nat.reduceLT,Nat.reduceEqDiff]; rfl) (by first | rfl | (simp only [load_str,load_bool,load_int,load_slice,ti3]; done) | (simp only [load_str,load_bool,load_int,load_slice,ti3,okV,ok1,okC,okP,List.all_cons,List.all_nil,Bool.and_true]; done)) ?_
       clear hN16 hD16 N16
       first
       | rfl
       | (cases hb4; done)
       | (exfalso
          clear hsub hip hyl hyb hyn hF hR hld
          rcases Int.lt_or_le (atL m a c) 0 with hi0 | hi0
          · have e := hfl.1 hi0
            have hz := sameO_refl opZ
            simp_all <;> omega
          · obtain ⟨q,hq,e⟩ := hfl.2 hi0
            have hqp : q = p := by rw [hpl hi0] at hq; exact (Option.some.inj hq).symm
            subst hqp
            have hz : sameO q.own q = true := by rw [sameO_own,sameO_refl]
            simp_all <;> omega)
     ·simp only [sS,↓sT,Nat.reduceLT,Nat.reduceEqDiff,↓sD,↓D_g,memOk,lets0,lets1,List.not_mem_nil,not_false_eq_true,true_and,and_true,sG,opV,loudV,cellsOf,strOp,evL,Nat.reduceAdd,Int.reduceBEq,Int.reduceBNe,ti49,buildV,evParts,V.isCell,List.all_cons,List.all_nil,Bool.and_self,if_true,placesOf,fillV,List.getElem?_cons_zero,List.getElem?_cons_succ,List.length_cons,List.length_nil,Nat.zero_add,ne_eq,not_true_eq_false,false_or,gt_iff_lt,if_false,wrL,Option.map_some,List.set_cons_zero,List.set_cons_succ,ti52,or_self,hyl,hip,hve,hle,hce,vec_cells,all_ints,(vec_load hv),tag_cells,tag_isC,cat_at,cat_set,wr15,op_isC,op_full,op_len,op_cells,opCells,icell_int,icell_str,icell_bool,dropsW_isC,load15,load_int,tag_load2,tag_load,tag_fold,opZ_w,List.drop_zero,ge_iff_le,List.mem_singleton,List.mem_cons,ti3,ti2,ti9,ti4,ti47,ti38,ti25,ti23,hb4,hb8,hb13,hg17_2,hg17_15]
      refine hN17 _ ?_; try clear hN17 hD17 N17
      refine WC_condE ?_
      simp only [sS,↓sT,Nat.reduceLT,Nat.reduceEqDiff,↓stepC_bool,hb4,hb8,hb13,hg17_2,hg17_15,Int.reduceBEq,Int.reduceBNe,beq_self_eq_true,bne_self_eq_false]
      refine ⟨fun hb => (by cases hb),fun hb => ?_⟩
      refine WC_skip ?_
      refine hN16 _ ?_; try clear hN16 hD16 N16
      refine WC_seqR (fun N32 hN32 hD32 => ?_)
      simp only [sS,↓sT,Nat.reduceLT,Nat.reduceEqDiff,↓sO,↓WOps_g,sG,opV,loudV,cellsOf,strOp,evL,Nat.reduceAdd,Int.reduceBEq,Int.reduceBNe,or_self,not_false_eq_true,hyl,hip,hve,hle,hce,vec_cells,all_ints,(vec_load hv),tag_cells,tag_isC,cat_at,cat_set,wr15,op_isC,op_full,op_len,op_cells,opCells,icell_int,icell_str,icell_bool,dropsW_isC,Bool.and_self,load15,load_int,tag_load2,tag_load,tag_fold,opZ_w,List.drop_zero,List.all_cons,List.all_nil,gt_iff_lt,ge_iff_le,List.mem_singleton,List.mem_cons,ti3,ti2,ti9,ti4,ti47,ti38,ti49,ti25,ti23,hb4,hb8,hb13,hg17_2,hg17_15]
      refine WOps_copyB (b := 2) hF (by simp only [ev_func]) (by first | (simp only [evL,sS,↓sT,Nat.reduceLT,Nat.reduceEqDiff]; done) | (simp only [evL,sS,↓sT,Nat.reduceLT,Nat.reduceEqDiff]; rfl)) rfl (fun ds2 ow2 n2 hP2 hT2 => ?_)
      have hlens : ∀ l ∈ Ls,l.length ≤ 400 := fun l hl => by have := len_tot hl; have := hR.tt; omega
      have hle := len_eq hR hm60
      have hve := vec_eq (a := haveL Ls) (b := haveL Ls) hF.p.bare.len hF.p.bare.len
      have cH := c_punnet_punnetref26_Have m y hF.y (by omega) (fun o ho => by obtain ⟨r1,r6,_⟩ := right_facts (hR.right o ho); exact ⟨r1,r6⟩)
      rw [← have_eq hR] at cH
      have cC := h__punnet_pool_Pool_Clock Ls ds hF.p hF.t hF.d hlens
      rw [clock_eq hF.c hm60] at cC
      have hPs : PS (sortL m) (.slice 15 ((sortL m).map opW) (m.length == 0) none) := .inr ⟨_,rfl⟩
      have hPr : PS (refSince m v most) (.slice 15 ((refSince m v most).map opW) ((refSince m v most).length == 0) none) := .inr ⟨_,rfl⟩
      have cS1 := c_punnet_punnetref20_SameOps _ _ _ _ (opsV_PS (sinceL Ls zeroV 400)) hPs (since_len _ _) (since_drops hF.d)
      rw [show sameOps (sinceL Ls zeroV 400) (sortL m) = true from by rw [ops_eq hF.c hm60,sameOps_own]] at cS1
      have cS2 := c_punnet_punnetref20_SameOps _ _ _ _ (opsV_PS (sinceL Ls zeroV 400)) (opsV_PS (sinceL Ls zeroV 400)) (since_len _ _) (since_drops hF.d)
      rw [sameOps_refl] at cS2
      have cS3 := c_punnet_punnetref20_SameOps _ _ _ _ (opsV_PS (sinceL Ls v most)) hPr (by rw [sinceL,List.length_take]; have := part_le hR v; unfold maxLen; omega) (since_drops hF.d)
      rw [show sameOps (sinceL Ls v most) (refSince m v most) = true from by rw [since_eq hF.c,sameOps_own]] at cS3
      have ob1 := (opsV_PS (sinceL Ls zeroV 400)).bare
      have ob2 := (opsV_PS (sinceL Ls v most)).bare
      have on1 := (opsV_PS (sinceL Ls zeroV 400)).noP
      have on2 := (opsV_PS (sinceL Ls v most)).noP
      clear hfl hfd hip hp hpl
      simp only [sS,↓sT,Nat.reduceLT,Nat.reduceEqDiff,↓sO,↓WOps_g,sG,opV,loudV,cellsOf,strOp,evL,Nat.reduceAdd,Int.reduceBEq,Int.reduceBNe,or_self,not_false_eq_true,hyl,hip,hve,hle,hce,vec_cells,all_ints,(vec_load hv),tag_cells,tag_isC,cat_at,cat_set,wr15,op_isC,op_full,op_len,op_cells,opCells,icell_int,icell_str,icell_bool,dropsW_isC,Bool.and_self,load15,load_int,tag_load2,tag_load,tag_fold,opZ_w,List.drop_zero,List.all_cons,List.all_nil,gt_iff_lt,ge_iff_le,List.mem_singleton,List.mem_cons,ti3,ti2,ti9,ti4,ti47,ti38,ti49,ti25,ti23,hb4,hb8,hb13,hg17_2,hg17_15]
      refine hN32 _ ?_; try clear hN32 hD32 N32
      refine WC_seqD mixed [2] [0,0,0,0,0,0,0,0,0,0,0,0,0,0,0,0,1,0,0,0,0,0,0,0,0,0,0,0,0,0,0,0,0,0,0,0,0,0,0,0,0,0,0,0,0] (by decide +kernel) (fun N33 hN33 hD33 => ?_)
      simp only [sS,↓sT,Nat.reduceLT,Nat.reduceEqDiff,↓sD,↓D_g,memOk,lets0,lets1,List.not_mem_nil,not_false_eq_true,true_and,and_true,sG,opV,loudV,cellsOf,strOp,evL,Nat.reduceAdd,Int.reduceBEq,Int.reduceBNe,ti23,ti52,or_self,hyl,hip,hve,hle,hce,vec_cells,all_ints,(vec_load hv),tag_cells,tag_isC,cat_at,cat_set,wr15,op_isC,op_full,op_len,op_cells,opCells,icell_int,icell_str,icell_bool,dropsW_isC,Bool.and_self,load15,load_int,tag_load2,tag_load,tag_fold,opZ_w,List.drop_zero,List.all_cons,List.all_nil,gt_iff_lt,ge_iff_le,List.mem_singleton,List.mem_cons,ti3,ti2,ti9,ti4,ti47,ti38,ti49,ti25,hb4,hb8,hb13,hg17_2,hg17_15]
      refine D_callB (b := 2) (ys := []) (h__punnet_pool_Pool_Ops Ls ds hF.p hF.d hlens) hF.p hF.t (fun y hy => absurd hy List.not_mem_nil) (opsV_facts _).1 (opsV_facts _).2.1 (by simp [limOf,Lim.lets]) (by simp only [ev_func]) (by first | (simp only [evL,sS,↓sT,Nat.reduceLT,Nat.reduceEqDiff]; done) | (simp only [evL,sS,↓sT,Nat.reduceLT,Nat.reduceEqDiff]; rfl)) rfl (fun ow3 n3 hsub3 => ?_)
      simp only [sS,↓sT,Nat.reduceLT,Nat.reduceEqDiff,↓sD,↓D_g,memOk,lets0,lets1,List.not_mem_nil,not_false_eq_true,true_and,and_true,sG,opV,loudV,cellsOf,strOp,evL,Nat.reduceAdd,Int.reduceBEq,Int.reduceBNe,ti23,ti52,or_self,hyl,hip,hve,hle,hce,vec_cells,all_ints,(vec_load hv),tag_cells,tag_isC,cat_at,cat_set,wr15,op_isC,op_full,op_len,op_cells,opCells,icell_int,icell_str,icell_bool,dropsW_isC,Bool.and_self,load15,load_int,tag_load2,tag_load,tag_fold,opZ_w,List.drop_zero,List.all_cons,List.all_nil,gt_iff_lt,ge_iff_le,List.mem_singleton,List.mem_cons,ti3,ti2,ti9,ti4,ti47,ti38,ti49,ti25,hb4,hb8,hb13,hg17_2,hg17_15]
      refine D_callP (c_punnet_punnetref26_Sorted m y hF.y (by omega)) (by simp only [ev_func]) (by simp only [evL,sS,↓sT,Nat.reduceLT,Nat.reduceEqDiff]; rfl) (by first | rfl | (simp only [List.map,vec_bare,tag_bare,hx.bare,op_bare,hyb]; done) | (simp only [List.map,vec_bare,tag_bare,hx.bare,op_bare,hyb]; exact rfl)) (by first | rfl | simp [vec_noP,tag_noP,hx.noP,noP_int,op_noP,hyn]) (by first | rfl | simp [vec_noP,tag_noP,hx.noP,noP_int,op_noP,hyn]) (by first | exact op_bare _ | exact vec_bare _ | rfl) ?_
      simp only [sS,↓sT,Nat.reduceLT,Nat.reduceEqDiff,↓sD,↓D_g,memOk,lets0,lets1,List.not_mem_nil,not_false_eq_true,true_and,and_true,sG,opV,loudV,cellsOf,strOp,evL,Nat.reduceAdd,Int.reduceBEq,Int.reduceBNe,ti23,ti52,or_self,hyl,hip,hve,hle,hce,vec_cells,all_ints,(vec_load hv),tag_cells,tag_isC,cat_at,cat_set,wr15,op_isC,op_full,op_len,op_cells,opCells,icell_int,icell_str,icell_bool,dropsW_isC,Bool.and_self,load15,load_int,tag_load2,tag_load,tag_fold,opZ_w,List.drop_zero,List.all_cons,List.all_nil,gt_iff_lt,ge_iff_le,List.mem_singleton,List.mem_cons,ti3,ti2,ti9,ti4,ti47,ti38,ti49,ti25,hb4,hb8,hb13,hg17_2,hg17_15]
      refine D_callP cS1 (by simp only [ev_func]) (by simp only [evL,sS,↓sT,Nat.reduceLT,Nat.reduceEqDiff]; rfl) (by first | (simp only [List.map_cons,List.map_nil,ob1]; done) | (simp only [List.map_cons,List.map_nil,ob1]; rfl)) (by simp only [List.all_cons,on1]; rfl) rfl rfl ?_
      simp only [sS,↓sT,Nat.reduceLT,Nat.reduceEqDiff,↓sD,↓D_g,memOk,lets0,lets1,List.not_mem_nil,not_false_eq_true,true_and,and_true,sG,opV,loudV,cellsOf,strOp,evL,Nat.reduceAdd,Int.reduceBEq,Int.reduceBNe,ti23,ti52,or_self,hyl,hip,hve,hle,hce,vec_cells,all_ints,(vec_load hv),tag_cells,tag_isC,cat_at,cat_set,wr15,op_isC,op_full,op_len,op_cells,opCells,icell_int,icell_str,icell_bool,dropsW_isC,Bool.and_self,load15,load_int,tag_load2,tag_load,tag_fold,opZ_w,List.drop_zero,List.all_cons,List.all_nil,gt_iff_lt,ge_iff_le,List.mem_singleton,List.mem_cons,ti3,ti2,ti9,ti4,ti47,ti38,ti49,ti25,hb4,hb8,hb13,hg17_2,hg17_15]
      refine D_callB (b := 4) (ys := []) (h__punnet_pool_Pool_Ops Ls ds2 hP2 hF.d hlens) hP2 hT2 (fun y hy => absurd hy List.not_mem_nil) (opsV_facts _).1 (opsV_facts _).2.1 (by simp [limOf,Lim.lets]) (by simp only [ev_func]) (by first | (simp only [evL,sS,↓sT,Nat.reduceLT,Nat.reduceEqDiff]; done) | (simp only [evL,sS,↓sT,Nat.reduceLT,Nat.reduceEqDiff]; rfl)) rfl (fun ow3 n3 hsub3 => ?_)
      simp only [sS,↓sT,Nat.reduceLT,Nat.reduceEqDiff,↓sD,↓D_g,memOk,lets0,lets1,List.not_mem_nil,not_false_eq_true,true_and,and_true,sG,opV,loudV,cellsOf,strOp,evL,Nat.reduceAdd,Int.reduceBEq,Int.reduceBNe,ti23,ti52,or_self,hyl,hip,hve,hle,hce,vec_cells,all_ints,(vec_load hv),tag_cells,tag_isC,cat_at,cat_set,wr15,op_isC,op_full,op_len,op_cells,opCells,icell_int,icell_str,icell_bool,dropsW_isC,Bool.and_self,load15,load_int,tag_load2,tag_load,tag_fold,opZ_w,List.drop_zero,List.all_cons,List.all_nil,gt_iff_lt,ge_iff_le,List.mem_singleton,List.mem_cons,ti3,ti2,ti9,ti4,ti47,ti38,ti49,ti25,hb4,hb8,hb13,hg17_2,hg17_15]
      refine D_callB (b := 2) (ys := []) (h__punnet_pool_Pool_Ops Ls ds hF.p hF.d hlens) hF.p hF.t (fun y hy => absurd hy List.not_mem_nil) (opsV_facts _).1 (opsV_facts _).2.1 (by simp [limOf,Lim.lets]) (by simp only [ev_func]) (by first | (simp only [evL,sS,↓sT,Nat.reduceLT,Nat.reduceEqDiff]; done) | (simp only [evL,sS,↓sT,Nat.reduceLT,Nat.reduceEqDiff]; rfl)) rfl (fun ow3 n3 hsub3 => ?_)
      simp only [sS,↓sT,Nat.reduceLT,Nat.reduceEqDiff,↓sD,↓D_g,memOk,lets0,lets1,List.not_mem_nil,not_false_eq_true,true_and,and_true,sG,opV,loudV,cellsOf,strOp,evL,Nat.reduceAdd,Int.reduceBEq,Int.reduceBNe,ti23,ti52,or_self,hyl,hip,hve,hle,hce,vec_cells,all_ints,(vec_load hv),tag_cells,tag_isC,cat_at,cat_set,wr15,op_isC,op_full,op_len,op_cells,opCells,icell_int,icell_str,icell_bool,dropsW_isC,Bool.and_self,load15,load_int,tag_load2,tag_load,tag_fold,opZ_w,List.drop_zero,List.all_cons,List.all_nil,gt_iff_lt,ge_iff_le,List.mem_singleton,List.mem_cons,ti3,ti2,ti9,ti4,ti47,ti38,ti49,ti25,hb4,hb8,hb13,hg17_2,hg17_15]
      refine D_callP cS2 (by simp only [ev_func]) (by simp only [evL,sS,↓sT,Nat.reduceLT,Nat.reduceEqDiff]; rfl) (by first | (simp only [List.map_cons,List.map_nil,ob1]; done) | (simp only [List.map_cons,List.map_nil,ob1]; rfl)) (by simp only [List.all_cons,on1]; rfl) rfl rfl ?_
      simp only [sS,↓sT,Nat.reduceLT,Nat.reduceEqDiff,↓sD,↓D_g,memOk,lets0,lets1,List.not_mem_nil,not_false_eq_true,true_and,and_true,sG,opV,loudV,cellsOf,strOp,evL,Nat.reduceAdd,Int.reduceBEq,Int.reduceBNe,ti23,ti52,or_self,hyl,hip,hve,hle,hce,vec_cells,all_ints,(vec_load hv),tag_cells,tag_isC,cat_at,cat_set,wr15,op_isC,op_full,op_len,op_cells,opCells,icell_int,icell_str,icell_bool,dropsW_isC,Bool.and_self,load15,load_int,tag_load2,tag_load,tag_fold,opZ_w,List.drop_zero,List.all_cons,List.all_nil,gt_iff_lt,ge_iff_le,List.mem_singleton,List.mem_cons,ti3,ti2,ti9,ti4,ti47,ti38,ti49,ti25,hb4,hb8,hb13,hg17_2,hg17_15]
      refine D_callB (b := 2) (ys := [vecV v, .int .i64 most]) (by rw [vec_bare1L]; exact h__punnet_pool_Pool_Since Ls ds hF.p v hv most hF.d hlens) hF.p hF.t (by intro y hy; simp only [List.mem_cons,List.not_mem_nil,or_false] at hy; rcases hy with rfl | rfl; exact vec_noP v; rfl) (opsV_facts _).1 (opsV_facts _).2.1 (by simp [limOf,Lim.lets]) (by simp only [ev_func]) (by first | (simp only [evL,sS,↓sT,Nat.reduceLT,Nat.reduceEqDiff]; done) | (simp only [evL,sS,↓sT,Nat.reduceLT,Nat.reduceEqDiff]; rfl)) rfl (fun ow3 n3 hsub3 => ?_)
      simp only [sS,↓sT,Nat.reduceLT,Nat.reduceEqDiff,↓sD,↓D_g,memOk,lets0,lets1,List.not_mem_nil,not_false_eq_true,true_and,and_true,sG,opV,loudV,cellsOf,strOp,evL,Nat.reduceAdd,Int.reduceBEq,Int.reduceBNe,ti23,ti52,or_self,hyl,hip,hve,hle,hce,vec_cells,all_ints,(vec_load hv),tag_cells,tag_isC,cat_at,cat_set,wr15,op_isC,op_full,op_len,op_cells,opCells,icell_int,icell_str,icell_bool,dropsW_isC,Bool.and_self,load15,load_int,tag_load2,tag_load,tag_fold,opZ_w,List.drop_zero,List.all_cons,List.all_nil,gt_iff_lt,ge_iff_le,List.mem_singleton,List.mem_cons,ti3,ti2,ti9,ti4,ti47,ti38,ti49,ti25,hb4,hb8,hb13,hg17_2,hg17_15]
      refine D_callP (c_punnet_punnetref26_Since m y hF.y (by omega) v hv most) (by simp only [ev_func]) (by simp only [evL,sS,↓sT,Nat.reduceLT,Nat.reduceEqDiff]; rfl) (by first | rfl | (simp only [List.map,vec_bare,tag_bare,hx.bare,op_bare,hyb]; done) | (simp only [List.map,vec_bare,tag_bare,hx.bare,op_bare,hyb]; exact rfl)) (by first | rfl | simp [vec_noP,tag_noP,hx.noP,noP_int,op_noP,hyn]) (by first | rfl | simp [vec_noP,tag_noP,hx.noP,noP_int,op_noP,hyn]) (by first | exact op_bare _ | exact vec_bare _ | rfl) ?_
      simp only [sS,↓sT,Nat.reduceLT,Nat.reduceEqDiff,↓sD,↓D_g,memOk,lets0,lets1,List.not_mem_nil,not_false_eq_true,true_and,and_true,sG,opV,loudV,cellsOf,strOp,evL,Nat.reduceAdd,Int.reduceBEq,Int.reduceBNe,ti23,ti52,or_self,hyl,hip,hve,hle,hce,vec_cells,all_ints,(vec_load hv),tag_cells,tag_isC,cat_at,cat_set,wr15,op_isC,op_full,op_len,op_cells,opCells,icell_int,icell_str,icell_bool,dropsW_isC,Bool.and_self,load15,load_int,tag_load2,tag_load,tag_fold,opZ_w,List.drop_zero,List.all_cons,List.all_nil,gt_iff_lt,ge_iff_le,List.mem_singleton,List.mem_cons,ti3,ti2,ti9,ti4,ti47,ti38,ti49,ti25,hb4,hb8,hb13,hg17_2,hg17_15]
      refine D_callP cS3 (by simp only [ev_func]) (by simp only [evL,sS,↓sT,Nat.reduceLT,Nat.reduceEqDiff]; rfl) (by first | (simp only [List.map_cons,List.map_nil,ob2]; done) | (simp only [List.map_cons,List.map_nil,ob2]; rfl)) (by simp only [List.all_cons,on2]; rfl) rfl rfl ?_
      simp only [sS,↓sT,Nat.reduceLT,Nat.reduceEqDiff,↓sD,↓D_g,memOk,lets0,lets1,List.not_mem_nil,not_false_eq_true,true_and,and_true,sG,opV,loudV,cellsOf,strOp,evL,Nat.reduceAdd,Int.reduceBEq,Int.reduceBNe,ti23,ti52,or_self,hyl,hip,hve,hle,hce,vec_cells,all_ints,(vec_load hv),tag_cells,tag_isC,cat_at,cat_set,wr15,op_isC,op_full,op_len,op_cells,opCells,icell_int,icell_str,icell_bool,dropsW_isC,Bool.and_self,load15,load_int,tag_load2,tag_load,tag_fold,opZ_w,List.drop_zero,List.all_cons,List.all_nil,gt_iff_lt,ge_iff_le,List.mem_singleton,List.mem_cons,ti3,ti2,ti9,ti4,ti47,ti38,ti49,ti25,hb4,hb8,hb13,hg17_2,hg17_15]
      refine D_callL (xs := [.ptr 2 0]) (c_have hF.p.bare) ?_ ?_ ?_ ?_ (vec_pl _) ?_
      · omega
      · simp only [ev_func]
      · first | (simp only [evL,sS,↓sT,Nat.reduceLT,Nat.reduceEqDiff]; done) | (simp only [evL,sS,↓sT,Nat.reduceLT,Nat.reduceEqDiff]; rfl)
      · exact hF.p.lentAt (b := 2) rfl
      simp only [sS,↓sT,Nat.reduceLT,Nat.reduceEqDiff,↓sD,↓D_g,memOk,lets0,lets1,List.not_mem_nil,not_false_eq_true,true_and,and_true,sG,opV,loudV,cellsOf,strOp,evL,Nat.reduceAdd,Int.reduceBEq,Int.reduceBNe,ti23,ti52,or_self,hyl,hip,hve,hle,hce,vec_cells,all_ints,(vec_load hv),tag_cells,tag_isC,cat_at,cat_set,wr15,op_isC,op_full,op_len,op_cells,opCells,icell_int,icell_str,icell_bool,dropsW_isC,Bool.and_self,load15,load_int,tag_load2,tag_load,tag_fold,opZ_w,List.drop_zero,List.all_cons,List.all_nil,gt_iff_lt,ge_iff_le,List.mem_singleton,List.mem_cons,ti3,ti2,ti9,ti4,ti47,ti38,ti49,ti25,hb4,hb8,hb13,hg17_2,hg17_15]
      refine D_callP cH (by simp only [ev_func]) (by simp only [evL,sS,↓sT,Nat.reduceLT,Nat.reduceEqDiff]; rfl) (by first | rfl | (simp only [List.map,vec_bare,tag_bare,hx.bare,op_bare,hyb]; done) | (simp only [List.map,vec_bare,tag_bare,hx.bare,op_bare,hyb]; exact rfl)) (by first | rfl | simp [vec_noP,tag_noP,hx.noP,noP_int,op_noP,hyn]) (by first | rfl | simp [vec_noP,tag_noP,hx.noP,noP_int,op_noP,hyn]) (by first | exact op_bare _ | exact vec_bare _ | rfl) ?_
      simp only [sS,↓sT,Nat.reduceLT,Nat.reduceEqDiff,↓sD,↓D_g,memOk,lets0,lets1,List.not_mem_nil,not_false_eq_true,true_and,and_true,sG,opV,loudV,cellsOf,strOp,evL,Nat.reduceAdd,Int.reduceBEq,Int.reduceBNe,ti23,ti52,or_self,hyl,hip,hve,hle,hce,vec_cells,all_ints,(vec_load hv),tag_cells,tag_isC,cat_at,cat_set,wr15,op_isC,op_full,op_len,op_cells,opCells,icell_int,icell_str,icell_bool,dropsW_isC,Bool.and_self,load15,load_int,tag_load2,tag_load,tag_fold,opZ_w,List.drop_zero,List.all_cons,List.all_nil,gt_iff_lt,ge_iff_le,List.mem_singleton,List.mem_cons,ti3,ti2,ti9,ti4,ti47,ti38,ti49,ti25,hb4,hb8,hb13,hg17_2,hg17_15]
      refine D_callL (xs := [.ptr 2 0]) (c__punnet_pool_Pool_Len Ls (ds.map V.bareC) hF.p.bare) ?_ ?_ ?_ ?_ rfl ?_
      · omega
      · simp only [ev_func]
      · first | (simp only [evL,sS,↓sT,Nat.reduceLT,Nat.reduceEqDiff]; done) | (simp only [evL,sS,↓sT,Nat.reduceLT,Nat.reduceEqDiff]; rfl)
      · exact hF.p.lentAt (b := 2) rfl
      simp only [sS,↓sT,Nat.reduceLT,Nat.reduceEqDiff,↓sD,↓D_g,memOk,lets0,lets1,List.not_mem_nil,not_false_eq_true,true_and,and_true,sG,opV,loudV,cellsOf,strOp,evL,Nat.reduceAdd,Int.reduceBEq,Int.reduceBNe,ti23,ti52,or_self,hyl,hip,hve,hle,hce,vec_cells,all_ints,(vec_load hv),tag_cells,tag_isC,cat_at,cat_set,wr15,op_isC,op_full,op_len,op_cells,opCells,icell_int,icell_str,icell_bool,dropsW_isC,Bool.and_self,load15,load_int,tag_load2,tag_load,tag_fold,opZ_w,List.drop_zero,List.all_cons,List.all_nil,gt_iff_lt,ge_iff_le,List.mem_singleton,List.mem_cons,ti3,ti2,ti9,ti4,ti47,ti38,ti49,ti25,hb4,hb8,hb13,hg17_2,hg17_15]
      refine D_callB (b := 2) (ys := []) cC hF.p hF.t (fun y hy => absurd hy List.not_mem_nil) rfl rfl (by simp [limOf,Lim.lets]) (by simp only [ev_func]) (by first | (simp only [evL,sS,↓sT,Nat.reduceLT,Nat.reduceEqDiff]; done) | (simp only [evL,sS,↓sT,Nat.reduceLT,Nat.reduceEqDiff]; rfl)) rfl (fun ow3 n3 hsub3 => ?_)
      simp only [sS,↓sT,Nat.reduceLT,Nat.reduceEqDiff,↓sD,↓D_g,memOk,lets0,lets1,List.not_mem_nil,not_false_eq_true,true_and,and_true,sG,opV,loudV,cellsOf,strOp,evL,Nat.reduceAdd,Int.reduceBEq,Int.reduceBNe,ti23,ti52,or_self,hyl,hip,hve,hle,hce,vec_cells,all_ints,(vec_load hv),tag_cells,tag_isC,cat_at,cat_set,wr15,op_isC,op_full,op_len,op_cells,opCells,icell_int,icell_str,icell_bool,dropsW_isC,Bool.and_self,load15,load_int,tag_load2,tag_load,tag_fold,opZ_w,List.drop_zero,List.all_cons,List.all_nil,gt_iff_lt,ge_iff_le,List.mem_singleton,List.mem_cons,ti3,ti2,ti9,ti4,ti47,ti38,ti49,ti25,hb4,hb8,hb13,hg17_2,hg17_15]
      refine D_callP (c_punnet_punnetref26_Clock m y hF.y (by omega)) (by simp only [ev_func]) (by simp only [evL,sS,↓sT,Nat.reduceLT,Nat.reduceEqDiff]; rfl) (by first | rfl | (simp only [List.map,vec_bare,tag_bare,hx.bare,op_bare,hyb]; done) | (simp only [List.map,vec_bare,tag_bare,hx.bare,op_bare,hyb]; exact rfl)) (by first | rfl | simp [vec_noP,tag_noP,hx.noP,noP_int,op_noP,hyn]) (by first | rfl | simp [vec_noP,tag_noP,hx.noP,noP_int,op_noP,hyn]) (by first | exact op_bare _ | exact vec_bare _ | rfl) ?_
      simp only [sS,↓sT,Nat.reduceLT,Nat.reduceEqDiff,↓sD,↓D_g,memOk,lets0,lets1,List.not_mem_nil,not_false_eq_true,true_and,and_true,sG,opV,loudV,cellsOf,strOp,evL,Nat.reduceAdd,Int.reduceBEq,Int.reduceBNe,ti23,ti52,or_self,hyl,hip,hve,hle,hce,vec_cells,all_ints,(vec_load hv),tag_cells,tag_isC,cat_at,cat_set,wr15,op_isC,op_full,op_len,op_cells,opCells,icell_int,icell_str,icell_bool,dropsW_isC,Bool.and_self,load15,load_int,tag_load2,tag_load,tag_fold,opZ_w,List.drop_zero,List.all_cons,List.all_nil,gt_iff_lt,ge_iff_le,List.mem_singleton,List.mem_cons,ti3,ti2,ti9,ti4,ti47,ti38,ti49,ti25,hb4,hb8,hb13,hg17_2,hg17_15]
      refine hN33 _ ?_; try clear hN33 hD33 N33
      refine WC_ret ?_; (try simp only [Exit.after,Exit.out]); refine Kend_ret (by simp only [resOf,resL,resV,mkS_get,slots_get,cellsOf,load_str,load_bool,load_int,load_slice,ti3,sS,↓sT,Nat.reduceLT,Nat.reduceEqDiff]; rfl) (by first | rfl | (simp only [load_str,load_bool,load_int,load_slice,ti3]; done) | (simp only [load_str,load_bool,load_int,load_slice,ti3,okV,ok1,okC,okP,List.all_cons,List.all_nil,Bool.and_true]; done)) ?_
      first
      | rfl
      | (cases hb4; done)
      | (exfalso
         clear hsub hip hyl hyb hyn hF hR hld
         rcases Int.lt_or_le (atL m a c) 0 with hi0 | hi0
         · have e := hfl.1 hi0
           have hz := sameO_refl opZ
           simp_all <;> omega
         · obtain ⟨q,hq,e⟩ := hfl.2 hi0
           have hqp : q = p := by rw [hpl hi0] at hq; exact (Option.some.inj hq).symm
           subst hqp
           have hz : sameO q.own q = true := by rw [sameO_own,sameO_refl]
           simp_all <;> omega)
end Go.PV
