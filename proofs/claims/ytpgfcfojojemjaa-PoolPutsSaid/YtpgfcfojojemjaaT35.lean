/- punnetref20: Right. -/
import Derived.Test.YtpgfcfojojemjaaT34
namespace Go.PV
open Go.Proofs
set_option linter.unusedVariables false
set_option linter.unusedSimpArgs false
set_option maxRecDepth 10000
set_option maxHeartbeats 8000000

/-- the reference's answer, as its text goes -/
def rightR (o : OpS) : Bool :=
  if (!tagB o.idR o.idN || (!isNil o.scR o.scN && !tagB o.scR o.scN) || decide (o.time < 1) || decide (1099511627776 < o.time) || !nameB o.cart || !dropsB o) = true then false
  else if o.kind = 5 then o.item == [] && plainB o
  else if o.kind = 1 then nameB o.item && (plainB o && ((o.dropsL.length : Int) == 0))
  else if o.kind = 2 then nameB o.item && plainB o
  else if (!placeB o.atS o.atG o.atN || (o.atS == 1 && !nameB o.item) || (o.atS == 0 && !(o.item == []))) = true then false
  else if o.kind = 3 then !o.has && ((o.text == []) && (((o.dropsL.length : Int) == 0) && (decide (-1048577 < o.delta) && decide (o.delta < 1048577))))
  else o.kind == 4 && ((o.delta == 0) && ((o.has && decide ((o.text.length : Int) < 41)) || (!o.has && (o.text == []))))
theorem sR0 : type_of% (And.intro @op_cells (And.intro @op_isC (And.intro @icell_int (And.intro @icell_str (And.intro @icell_bool (And.intro @dropsW_isC (And.intro @load_slice (And.intro @load_int (And.intro @load_str (And.intro @load_bool (And.intro @tag_load2 (And.intro @tag_load (And.intro @tag_fold (And.intro @ref_load (And.intro @tag_eql (And.intro @tag_neq (And.intro @ref_eql (And.intro @str_eql (And.intro @bool_eql (And.intro @ref_fold (And.intro @load15 (And.intro @len_str (And.intro @ti3 (And.intro @ti9 (@ti47))))))))))))))))))))))))) := And.intro @op_cells (And.intro @op_isC (And.intro @icell_int (And.intro @icell_str (And.intro @icell_bool (And.intro @dropsW_isC (And.intro @load_slice (And.intro @load_int (And.intro @load_str (And.intro @load_bool (And.intro @tag_load2 (And.intro @tag_load (And.intro @tag_fold (And.intro @ref_load (And.intro @tag_eql (And.intro @tag_neq (And.intro @ref_eql (And.intro @str_eql (And.intro @bool_eql (And.intro @ref_fold (And.intro @load15 (And.intro @len_str (And.intro @ti3 (And.intro @ti9 (@ti47))))))))))))))))))))))))
theorem c_punnet_punnetref20_Right (o : OpS) : VC Try.prog 63 [opW o] [] (fun r _ => r = .bool (rightR o)) := by
 refine VC_enter (nt := 158) (rs := [.tmp 2]) (ow := []) (m := 0) Try.func63 rfl (by rfl) rfl rfl (by simp) (by simp [ownOf,op_toks]) rfl (fun n => ?_)
 simp only [zipT,Nat.zero_add]
 have lenD := (dropsW_TS o.drops).len
 refine WC_seqR (fun N1 hN1 hD1 => ?_)
 simp only [sS,↓sT,Nat.reduceLT,Nat.reduceEqDiff,↓sO,↓WOps_g,sG,opV,loudV,cellsOf,strOp,evL,Nat.reduceAdd,Int.reduceBEq,Int.reduceBNe,sR0,opCells,List.all_cons,List.all_nil,Bool.and_self,gt_iff_lt,lenD]
 refine hN1 _ ?_; try clear hN1 hD1 N1
 refine WC_seqN (fun N2 hN2 hD2 => ?_)
 refine WC_seqR (fun N3 hN3 hD3 => ?_)
 simp only [sS,↓sT,Nat.reduceLT,Nat.reduceEqDiff,↓sO,↓WOps_g,sG,opV,loudV,cellsOf,strOp,evL,Nat.reduceAdd,Int.reduceBEq,Int.reduceBNe,fS49,ti25,buildV,evParts,V.isCell,List.all_cons,List.all_nil,Bool.and_self,if_true,placesOf,fillV,List.getElem?_cons_zero,List.getElem?_cons_succ,List.length_cons,List.length_nil,Nat.zero_add,ne_eq,not_true_eq_false,false_or,gt_iff_lt,if_false,wrL,Option.map_some,List.set_cons_zero,List.set_cons_succ,ti2,ti9,ti49,sR0,opCells,lenD]
 refine WOps_callP (c_punnet_punnetref17_Tag _ _) (by simp only [ev_func]) (by simp only [evL,sS,↓sT,Nat.reduceLT,Nat.reduceEqDiff]; rfl) (by first | rfl | (simp only [List.map,op_bare,tag_bare,ref_bare,bare_str]; done) | (simp only [List.map,op_bare,tag_bare,ref_bare,bare_str]; exact rfl)) (by first | rfl | simp [op_noP,tag_noP,ref_noP,noP_str]) (by first | rfl | simp [op_noP,tag_noP,ref_noP,noP_str]) (by first | exact op_bare _ | rfl) ?_
 simp only [sS,↓sT,Nat.reduceLT,Nat.reduceEqDiff,↓sO,↓WOps_g,sG,opV,loudV,cellsOf,strOp,evL,Nat.reduceAdd,Int.reduceBEq,Int.reduceBNe,fS49,ti25,buildV,evParts,V.isCell,List.all_cons,List.all_nil,Bool.and_self,if_true,placesOf,fillV,List.getElem?_cons_zero,List.getElem?_cons_succ,List.length_cons,List.length_nil,Nat.zero_add,ne_eq,not_true_eq_false,false_or,gt_iff_lt,if_false,wrL,Option.map_some,List.set_cons_zero,List.set_cons_succ,ti2,ti9,ti49,sR0,opCells,lenD]
 refine stepB_F (fun hg3_4 => ?_) (fun hg3_4 => ?_)
 ·simp only [sS,↓sT,Nat.reduceLT,Nat.reduceEqDiff,↓sO,↓WOps_g,sG,opV,loudV,cellsOf,strOp,evL,Nat.reduceAdd,Int.reduceBEq,Int.reduceBNe,fS49,ti25,buildV,evParts,V.isCell,List.all_cons,List.all_nil,Bool.and_self,if_true,placesOf,fillV,List.getElem?_cons_zero,List.getElem?_cons_succ,List.length_cons,List.length_nil,Nat.zero_add,ne_eq,not_true_eq_false,false_or,gt_iff_lt,if_false,wrL,Option.map_some,List.set_cons_zero,List.set_cons_succ,ti2,ti9,ti49,sR0,opCells,lenD,hg3_4]
  refine stepB_T (fun hg3_9 => ?_) (fun hg3_9 => ?_)
  ·simp only [sS,↓sT,Nat.reduceLT,Nat.reduceEqDiff,↓sO,↓WOps_g,sG,opV,loudV,cellsOf,strOp,evL,Nat.reduceAdd,Int.reduceBEq,Int.reduceBNe,fS49,ti25,buildV,evParts,V.isCell,List.all_cons,List.all_nil,Bool.and_self,if_true,placesOf,fillV,List.getElem?_cons_zero,List.getElem?_cons_succ,List.length_cons,List.length_nil,Nat.zero_add,ne_eq,not_true_eq_false,false_or,gt_iff_lt,if_false,wrL,Option.map_some,List.set_cons_zero,List.set_cons_succ,ti2,ti9,ti49,sR0,opCells,lenD,hg3_4,hg3_9]
   refine WOps_callP (c_punnet_punnetref17_Tag _ _) (by simp only [ev_func]) (by simp only [evL,sS,↓sT,Nat.reduceLT,Nat.reduceEqDiff]; rfl) (by first | rfl | (simp only [List.map,op_bare,tag_bare,ref_bare,bare_str]; done) | (simp only [List.map,op_bare,tag_bare,ref_bare,bare_str]; exact rfl)) (by first | rfl | simp [op_noP,tag_noP,ref_noP,noP_str]) (by first | rfl | simp [op_noP,tag_noP,ref_noP,noP_str]) (by first | exact op_bare _ | rfl) ?_
   simp only [sS,↓sT,Nat.reduceLT,Nat.reduceEqDiff,↓sO,↓WOps_g,sG,opV,loudV,cellsOf,strOp,evL,Nat.reduceAdd,Int.reduceBEq,Int.reduceBNe,fS49,ti25,buildV,evParts,V.isCell,List.all_cons,List.all_nil,Bool.and_self,if_true,placesOf,fillV,List.getElem?_cons_zero,List.getElem?_cons_succ,List.length_cons,List.length_nil,Nat.zero_add,ne_eq,not_true_eq_false,false_or,gt_iff_lt,if_false,wrL,Option.map_some,List.set_cons_zero,List.set_cons_succ,ti2,ti9,ti49,sR0,opCells,lenD,hg3_4,hg3_9]
   refine stepB_F (fun hg3_16 => ?_) (fun hg3_16 => ?_)
   ·simp only [sS,↓sT,Nat.reduceLT,Nat.reduceEqDiff,↓sO,↓WOps_g,sG,opV,loudV,cellsOf,strOp,evL,Nat.reduceAdd,Int.reduceBEq,Int.reduceBNe,fS49,ti25,buildV,evParts,V.isCell,List.all_cons,List.all_nil,Bool.and_self,if_true,placesOf,fillV,List.getElem?_cons_zero,List.getElem?_cons_succ,List.length_cons,List.length_nil,Nat.zero_add,ne_eq,not_true_eq_false,false_or,gt_iff_lt,if_false,wrL,Option.map_some,List.set_cons_zero,List.set_cons_succ,ti2,ti9,ti49,sR0,opCells,lenD,hg3_4,hg3_9,hg3_16]
    refine stepB_F (fun hg3_21 => ?_) (fun hg3_21 => ?_)
    ·simp only [sS,↓sT,Nat.reduceLT,Nat.reduceEqDiff,↓sO,↓WOps_g,sG,opV,loudV,cellsOf,strOp,evL,Nat.reduceAdd,Int.reduceBEq,Int.reduceBNe,fS49,ti25,buildV,evParts,V.isCell,List.all_cons,List.all_nil,Bool.and_self,if_true,placesOf,fillV,List.getElem?_cons_zero,List.getElem?_cons_succ,List.length_cons,List.length_nil,Nat.zero_add,ne_eq,not_true_eq_false,false_or,gt_iff_lt,if_false,wrL,Option.map_some,List.set_cons_zero,List.set_cons_succ,ti2,ti9,ti49,sR0,opCells,lenD,hg3_4,hg3_9,hg3_16,hg3_21]
     refine stepB_F (fun hg3_26 => ?_) (fun hg3_26 => ?_)
     ·simp only [sS,↓sT,Nat.reduceLT,Nat.reduceEqDiff,↓sO,↓WOps_g,sG,opV,loudV,cellsOf,strOp,evL,Nat.reduceAdd,Int.reduceBEq,Int.reduceBNe,fS49,ti25,buildV,evParts,V.isCell,List.all_cons,List.all_nil,Bool.and_self,if_true,placesOf,fillV,List.getElem?_cons_zero,List.getElem?_cons_succ,List.length_cons,List.length_nil,Nat.zero_add,ne_eq,not_true_eq_false,false_or,gt_iff_lt,if_false,wrL,Option.map_some,List.set_cons_zero,List.set_cons_succ,ti2,ti9,ti49,sR0,opCells,lenD,hg3_4,hg3_9,hg3_16,hg3_21,hg3_26]
      refine WOps_callP (c_refname _) (by simp only [ev_func]) (by simp only [evL,sS,↓sT,Nat.reduceLT,Nat.reduceEqDiff]; rfl) (by first | rfl | (simp only [List.map,op_bare,tag_bare,ref_bare,bare_str]; done) | (simp only [List.map,op_bare,tag_bare,ref_bare,bare_str]; exact rfl)) (by first | rfl | simp [op_noP,tag_noP,ref_noP,noP_str]) (by first | rfl | simp [op_noP,tag_noP,ref_noP,noP_str]) (by first | exact op_bare _ | rfl) ?_
      simp only [sS,↓sT,Nat.reduceLT,Nat.reduceEqDiff,↓sO,↓WOps_g,sG,opV,loudV,cellsOf,strOp,evL,Nat.reduceAdd,Int.reduceBEq,Int.reduceBNe,fS49,ti25,buildV,evParts,V.isCell,List.all_cons,List.all_nil,Bool.and_self,if_true,placesOf,fillV,List.getElem?_cons_zero,List.getElem?_cons_succ,List.length_cons,List.length_nil,Nat.zero_add,ne_eq,not_true_eq_false,false_or,gt_iff_lt,if_false,wrL,Option.map_some,List.set_cons_zero,List.set_cons_succ,ti2,ti9,ti49,sR0,opCells,lenD,hg3_4,hg3_9,hg3_16,hg3_21,hg3_26]
      refine stepB_F (fun hg3_32 => ?_) (fun hg3_32 => ?_)
      ·simp only [sS,↓sT,Nat.reduceLT,Nat.reduceEqDiff,↓sO,↓WOps_g,sG,opV,loudV,cellsOf,strOp,evL,Nat.reduceAdd,Int.reduceBEq,Int.reduceBNe,fS49,ti25,buildV,evParts,V.isCell,List.all_cons,List.all_nil,Bool.and_self,if_true,placesOf,fillV,List.getElem?_cons_zero,List.getElem?_cons_succ,List.length_cons,List.length_nil,Nat.zero_add,ne_eq,not_true_eq_false,false_or,gt_iff_lt,if_false,wrL,Option.map_some,List.set_cons_zero,List.set_cons_succ,ti2,ti9,ti49,sR0,opCells,lenD,hg3_4,hg3_9,hg3_16,hg3_21,hg3_26,hg3_32]
       refine WOps_callP (c_punnet_punnetref20_drops o) (by simp only [ev_func]) (by simp only [evL,sS,↓sT,Nat.reduceLT,Nat.reduceEqDiff]; rfl) (by first | rfl | (simp only [List.map,op_bare,tag_bare,ref_bare,bare_str]; done) | (simp only [List.map,op_bare,tag_bare,ref_bare,bare_str]; exact rfl)) (by first | rfl | simp [op_noP,tag_noP,ref_noP,noP_str]) (by first | rfl | simp [op_noP,tag_noP,ref_noP,noP_str]) (by first | exact op_bare _ | rfl) ?_
       simp only [sS,↓sT,Nat.reduceLT,Nat.reduceEqDiff,↓sO,↓WOps_g,sG,opV,loudV,cellsOf,strOp,evL,Nat.reduceAdd,Int.reduceBEq,Int.reduceBNe,fS49,ti25,buildV,evParts,V.isCell,List.all_cons,List.all_nil,Bool.and_self,if_true,placesOf,fillV,List.getElem?_cons_zero,List.getElem?_cons_succ,List.length_cons,List.length_nil,Nat.zero_add,ne_eq,not_true_eq_false,false_or,gt_iff_lt,if_false,wrL,Option.map_some,List.set_cons_zero,List.set_cons_succ,ti2,ti9,ti49,sR0,opCells,lenD,hg3_4,hg3_9,hg3_16,hg3_21,hg3_26,hg3_32]
       refine hN3 _ ?_; try clear hN3 hD3 N3
       refine WC_condE ?_
       simp only [sS,↓sT,Nat.reduceLT,Nat.reduceEqDiff,↓stepC_bool,hg3_4,hg3_9,hg3_16,hg3_21,hg3_26,hg3_32,Int.reduceBEq,Int.reduceBNe,beq_self_eq_true,bne_self_eq_false]
       refine ⟨fun hb4 => ?_,fun hb4 => ?_⟩
       ·refine WC_seqR (fun N5 hN5 hD5 => ?_)
        simp only [sS,↓sT,Nat.reduceLT,Nat.reduceEqDiff,↓sO,↓WOps_g,sG,opV,loudV,cellsOf,strOp,evL,Nat.reduceAdd,Int.reduceBEq,Int.reduceBNe,sR0,opCells,List.all_cons,List.all_nil,Bool.and_self,gt_iff_lt,lenD,hg3_4,hg3_9,hg3_16,hg3_21,hg3_26,hg3_32,hb4]
        refine hN5 _ ?_; try clear hN5 hD5 N5
        refine WC_ret ?_; (try simp only [Exit.after,Exit.out]); refine Kend_ret (by simp only [resOf,resL,resV,mkS_get,slots_get,cellsOf,if_true,sS,↓sT,Nat.reduceLT,Nat.reduceEqDiff]; rfl) (by first | rfl | (simp only [if_true]; done) | (simp only [if_true,okV,ok1,okC,okP,List.all_cons,List.all_nil,Bool.and_true]; done)) ?_
        clear hN2 hD2 N2
        first | (rw [keep_bool,rightR]; simp_all [isNil,OpS.dropsL]; done) | (rw [keep_bool,rightR]; simp_all [isNil,OpS.dropsL]; omega)
       ·refine WC_skip ?_
        refine hN2 _ ?_; try clear hN2 hD2 N2
        refine WC_seqN (fun N6 hN6 hD6 => ?_)
        refine WC_seqR (fun N7 hN7 hD7 => ?_)
        simp only [sS,↓sT,Nat.reduceLT,Nat.reduceEqDiff,↓sO,↓WOps_g,sG,opV,loudV,cellsOf,strOp,evL,Nat.reduceAdd,Int.reduceBEq,Int.reduceBNe,fS49,ti3,sR0,opCells,List.all_cons,List.all_nil,Bool.and_self,gt_iff_lt,lenD,hg3_4,hg3_9,hg3_16,hg3_21,hg3_26,hg3_32,hb4]
        refine hN7 _ ?_; try clear hN7 hD7 N7
        refine WC_condE ?_
        simp only [sS,↓sT,Nat.reduceLT,Nat.reduceEqDiff,↓stepC_bool,hg3_4,hg3_9,hg3_16,hg3_21,hg3_26,hg3_32,hb4,Int.reduceBEq,Int.reduceBNe,beq_self_eq_true,bne_self_eq_false]
        refine ⟨fun hb8 => ?_,fun hb8 => ?_⟩
        ·refine WC_seqR (fun N9 hN9 hD9 => ?_)
         simp only [sS,↓sT,Nat.reduceLT,Nat.reduceEqDiff,↓sO,↓WOps_g,sG,opV,loudV,cellsOf,strOp,evL,Nat.reduceAdd,Int.reduceBEq,Int.reduceBNe,fS49,ti9,ti49,sR0,opCells,List.all_cons,List.all_nil,Bool.and_self,gt_iff_lt,lenD,hg3_4,hg3_9,hg3_16,hg3_21,hg3_26,hg3_32,hb4,hb8]
         refine stepB_T (fun hg9_3 => ?_) (fun hg9_3 => ?_)
         ·simp only [sS,↓sT,Nat.reduceLT,Nat.reduceEqDiff,↓sO,↓WOps_g,sG,opV,loudV,cellsOf,strOp,evL,Nat.reduceAdd,Int.reduceBEq,Int.reduceBNe,fS49,ti9,ti49,sR0,opCells,List.all_cons,List.all_nil,Bool.and_self,gt_iff_lt,lenD,hg3_4,hg3_9,hg3_16,hg3_21,hg3_26,hg3_32,hb4,hb8,hg9_3]
          refine WOps_callP (c_punnet_punnetref20_plain o) (by simp only [ev_func]) (by simp only [evL,sS,↓sT,Nat.reduceLT,Nat.reduceEqDiff]; rfl) (by first | rfl | (simp only [List.map,op_bare,tag_bare,ref_bare,bare_str]; done) | (simp only [List.map,op_bare,tag_bare,ref_bare,bare_str]; exact rfl)) (by first | rfl | simp [op_noP,tag_noP,ref_noP,noP_str]) (by first | rfl | simp [op_noP,tag_noP,ref_noP,noP_str]) (by first | exact op_bare _ | rfl) ?_
          simp only [sS,↓sT,Nat.reduceLT,Nat.reduceEqDiff,↓sO,↓WOps_g,sG,opV,loudV,cellsOf,strOp,evL,Nat.reduceAdd,Int.reduceBEq,Int.reduceBNe,fS49,ti9,ti49,sR0,opCells,List.all_cons,List.all_nil,Bool.and_self,gt_iff_lt,lenD,hg3_4,hg3_9,hg3_16,hg3_21,hg3_26,hg3_32,hb4,hb8,hg9_3]
          refine hN9 _ ?_; try clear hN9 hD9 N9
          refine WC_ret ?_; (try simp only [Exit.after,Exit.out]); refine Kend_ret (by simp only [resOf,resL,resV,mkS_get,slots_get,cellsOf,if_true,sS,↓sT,Nat.reduceLT,Nat.reduceEqDiff]; rfl) (by first | rfl | (simp only [if_true]; done) | (simp only [if_true,okV,ok1,okC,okP,List.all_cons,List.all_nil,Bool.and_true]; done)) ?_
          clear hN6 hD6 N6
          first | (rw [keep_bool,rightR]; simp_all [isNil,OpS.dropsL]; done) | (rw [keep_bool,rightR]; simp_all [isNil,OpS.dropsL]; omega)
         ·simp only [sS,↓sT,Nat.reduceLT,Nat.reduceEqDiff,↓sO,↓WOps_g,sG,opV,loudV,cellsOf,strOp,evL,Nat.reduceAdd,Int.reduceBEq,Int.reduceBNe,fS49,ti9,ti49,sR0,opCells,List.all_cons,List.all_nil,Bool.and_self,gt_iff_lt,lenD,hg3_4,hg3_9,hg3_16,hg3_21,hg3_26,hg3_32,hb4,hb8,hg9_3]
          refine hN9 _ ?_; try clear hN9 hD9 N9
          refine WC_ret ?_; (try simp only [Exit.after,Exit.out]); refine Kend_ret (by simp only [resOf,resL,resV,mkS_get,slots_get,cellsOf,if_true,sS,↓sT,Nat.reduceLT,Nat.reduceEqDiff]; rfl) (by first | rfl | (simp only [if_true]; done) | (simp only [if_true,okV,ok1,okC,okP,List.all_cons,List.all_nil,Bool.and_true]; done)) ?_
          clear hN6 hD6 N6
          first | (rw [keep_bool,rightR]; simp_all [isNil,OpS.dropsL]; done) | (rw [keep_bool,rightR]; simp_all [isNil,OpS.dropsL]; omega)
        ·refine WC_skip ?_
         refine hN6 _ ?_; try clear hN6 hD6 N6
         refine WC_seqN (fun N10 hN10 hD10 => ?_)
         refine WC_seqR (fun N11 hN11 hD11 => ?_)
         simp only [sS,↓sT,Nat.reduceLT,Nat.reduceEqDiff,↓sO,↓WOps_g,sG,opV,loudV,cellsOf,strOp,evL,Nat.reduceAdd,Int.reduceBEq,Int.reduceBNe,fS49,ti3,sR0,opCells,List.all_cons,List.all_nil,Bool.and_self,gt_iff_lt,lenD,hg3_4,hg3_9,hg3_16,hg3_21,hg3_26,hg3_32,hb4,hb8]
         refine hN11 _ ?_; try clear hN11 hD11 N11
         refine WC_condE ?_
         simp only [sS,↓sT,Nat.reduceLT,Nat.reduceEqDiff,↓stepC_bool,hg3_4,hg3_9,hg3_16,hg3_21,hg3_26,hg3_32,hb4,hb8,Int.reduceBEq,Int.reduceBNe,beq_self_eq_true,bne_self_eq_false]
         refine ⟨fun hb12 => ?_,fun hb12 => ?_⟩
         ·refine WC_seqR (fun N13 hN13 hD13 => ?_)
          simp only [sS,↓sT,Nat.reduceLT,Nat.reduceEqDiff,↓sO,↓WOps_g,sG,opV,loudV,cellsOf,strOp,evL,Nat.reduceAdd,Int.reduceBEq,Int.reduceBNe,fS49,ti9,ti49,ti38,sR0,opCells,List.all_cons,List.all_nil,Bool.and_self,gt_iff_lt,lenD,hg3_4,hg3_9,hg3_16,hg3_21,hg3_26,hg3_32,hb4,hb8,hb12]
          refine WOps_callP (c_refname _) (by simp only [ev_func]) (by simp only [evL,sS,↓sT,Nat.reduceLT,Nat.reduceEqDiff]; rfl) (by first | rfl | (simp only [List.map,op_bare,tag_bare,ref_bare,bare_str]; done) | (simp only [List.map,op_bare,tag_bare,ref_bare,bare_str]; exact rfl)) (by first | rfl | simp [op_noP,tag_noP,ref_noP,noP_str]) (by first | rfl | simp [op_noP,tag_noP,ref_noP,noP_str]) (by first | exact op_bare _ | rfl) ?_
          simp only [sS,↓sT,Nat.reduceLT,Nat.reduceEqDiff,↓sO,↓WOps_g,sG,opV,loudV,cellsOf,strOp,evL,Nat.reduceAdd,Int.reduceBEq,Int.reduceBNe,fS49,ti9,ti49,ti38,sR0,opCells,List.all_cons,List.all_nil,Bool.and_self,gt_iff_lt,lenD,hg3_4,hg3_9,hg3_16,hg3_21,hg3_26,hg3_32,hb4,hb8,hb12]
          refine stepB_T (fun hg13_3 => ?_) (fun hg13_3 => ?_)
          ·simp only [sS,↓sT,Nat.reduceLT,Nat.reduceEqDiff,↓sO,↓WOps_g,sG,opV,loudV,cellsOf,strOp,evL,Nat.reduceAdd,Int.reduceBEq,Int.reduceBNe,fS49,ti9,ti49,ti38,sR0,opCells,List.all_cons,List.all_nil,Bool.and_self,gt_iff_lt,lenD,hg3_4,hg3_9,hg3_16,hg3_21,hg3_26,hg3_32,hb4,hb8,hb12,hg13_3]
           refine WOps_callP (c_punnet_punnetref20_plain o) (by simp only [ev_func]) (by simp only [evL,sS,↓sT,Nat.reduceLT,Nat.reduceEqDiff]; rfl) (by first | rfl | (simp only [List.map,op_bare,tag_bare,ref_bare,bare_str]; done) | (simp only [List.map,op_bare,tag_bare,ref_bare,bare_str]; exact rfl)) (by first | rfl | simp [op_noP,tag_noP,ref_noP,noP_str]) (by first | rfl | simp [op_noP,tag_noP,ref_noP,noP_str]) (by first | exact op_bare _ | rfl) ?_
           simp only [sS,↓sT,Nat.reduceLT,Nat.reduceEqDiff,↓sO,↓WOps_g,sG,opV,loudV,cellsOf,strOp,evL,Nat.reduceAdd,Int.reduceBEq,Int.reduceBNe,fS49,ti9,ti49,ti38,sR0,opCells,List.all_cons,List.all_nil,Bool.and_self,gt_iff_lt,lenD,hg3_4,hg3_9,hg3_16,hg3_21,hg3_26,hg3_32,hb4,hb8,hb12,hg13_3]
           refine stepB_T (fun hg13_7 => ?_) (fun hg13_7 => ?_)
           ·simp only [sS,↓sT,Nat.reduceLT,Nat.reduceEqDiff,↓sO,↓WOps_g,sG,opV,loudV,cellsOf,strOp,evL,Nat.reduceAdd,Int.reduceBEq,Int.reduceBNe,fS49,ti9,ti49,ti38,sR0,opCells,List.all_cons,List.all_nil,Bool.and_self,gt_iff_lt,lenD,hg3_4,hg3_9,hg3_16,hg3_21,hg3_26,hg3_32,hb4,hb8,hb12,hg13_3,hg13_7]
            refine hN13 _ ?_; try clear hN13 hD13 N13
            refine WC_ret ?_; (try simp only [Exit.after,Exit.out]); refine Kend_ret (by simp only [resOf,resL,resV,mkS_get,slots_get,cellsOf,if_true,sS,↓sT,Nat.reduceLT,Nat.reduceEqDiff]; rfl) (by first | rfl | (simp only [if_true]; done) | (simp only [if_true,okV,ok1,okC,okP,List.all_cons,List.all_nil,Bool.and_true]; done)) ?_
            clear hN10 hD10 N10
            first | (rw [keep_bool,rightR]; simp_all [isNil,OpS.dropsL]; done) | (rw [keep_bool,rightR]; simp_all [isNil,OpS.dropsL]; omega)
           ·simp only [sS,↓sT,Nat.reduceLT,Nat.reduceEqDiff,↓sO,↓WOps_g,sG,opV,loudV,cellsOf,strOp,evL,Nat.reduceAdd,Int.reduceBEq,Int.reduceBNe,fS49,ti9,ti49,ti38,sR0,opCells,List.all_cons,List.all_nil,Bool.and_self,gt_iff_lt,lenD,hg3_4,hg3_9,hg3_16,hg3_21,hg3_26,hg3_32,hb4,hb8,hb12,hg13_3,hg13_7]
            refine hN13 _ ?_; try clear hN13 hD13 N13
            refine WC_ret ?_; (try simp only [Exit.after,Exit.out]); refine Kend_ret (by simp only [resOf,resL,resV,mkS_get,slots_get,cellsOf,if_true,sS,↓sT,Nat.reduceLT,Nat.reduceEqDiff]; rfl) (by first | rfl | (simp only [if_true]; done) | (simp only [if_true,okV,ok1,okC,okP,List.all_cons,List.all_nil,Bool.and_true]; done)) ?_
            clear hN10 hD10 N10
            first | (rw [keep_bool,rightR]; simp_all [isNil,OpS.dropsL]; done) | (rw [keep_bool,rightR]; simp_all [isNil,OpS.dropsL]; omega)
          ·simp only [sS,↓sT,Nat.reduceLT,Nat.reduceEqDiff,↓sO,↓WOps_g,sG,opV,loudV,cellsOf,strOp,evL,Nat.reduceAdd,Int.reduceBEq,Int.reduceBNe,fS49,ti9,ti49,ti38,sR0,opCells,List.all_cons,List.all_nil,Bool.and_self,gt_iff_lt,lenD,hg3_4,hg3_9,hg3_16,hg3_21,hg3_26,hg3_32,hb4,hb8,hb12,hg13_3]
           refine hN13 _ ?_; try clear hN13 hD13 N13
           refine WC_ret ?_; (try simp only [Exit.after,Exit.out]); refine Kend_ret (by simp only [resOf,resL,resV,mkS_get,slots_get,cellsOf,if_true,sS,↓sT,Nat.reduceLT,Nat.reduceEqDiff]; rfl) (by first | rfl | (simp only [if_true]; done) | (simp only [if_true,okV,ok1,okC,okP,List.all_cons,List.all_nil,Bool.and_true]; done)) ?_
           clear hN10 hD10 N10
           first | (rw [keep_bool,rightR]; simp_all [isNil,OpS.dropsL]; done) | (rw [keep_bool,rightR]; simp_all [isNil,OpS.dropsL]; omega)
         ·refine WC_skip ?_
          refine hN10 _ ?_; try clear hN10 hD10 N10
          refine WC_seqN (fun N14 hN14 hD14 => ?_)
          refine WC_seqR (fun N15 hN15 hD15 => ?_)
          simp only [sS,↓sT,Nat.reduceLT,Nat.reduceEqDiff,↓sO,↓WOps_g,sG,opV,loudV,cellsOf,strOp,evL,Nat.reduceAdd,Int.reduceBEq,Int.reduceBNe,fS49,ti3,sR0,opCells,List.all_cons,List.all_nil,Bool.and_self,gt_iff_lt,lenD,hg3_4,hg3_9,hg3_16,hg3_21,hg3_26,hg3_32,hb4,hb8,hb12]
          refine hN15 _ ?_; try clear hN15 hD15 N15
          refine WC_condE ?_
          simp only [sS,↓sT,Nat.reduceLT,Nat.reduceEqDiff,↓stepC_bool,hg3_4,hg3_9,hg3_16,hg3_21,hg3_26,hg3_32,hb4,hb8,hb12,Int.reduceBEq,Int.reduceBNe,beq_self_eq_true,bne_self_eq_false]
          refine ⟨fun hb16 => ?_,fun hb16 => ?_⟩
          ·refine WC_seqR (fun N17 hN17 hD17 => ?_)
           simp only [sS,↓sT,Nat.reduceLT,Nat.reduceEqDiff,↓sO,↓WOps_g,sG,opV,loudV,cellsOf,strOp,evL,Nat.reduceAdd,Int.reduceBEq,Int.reduceBNe,fS49,ti9,ti49,sR0,opCells,List.all_cons,List.all_nil,Bool.and_self,gt_iff_lt,lenD,hg3_4,hg3_9,hg3_16,hg3_21,hg3_26,hg3_32,hb4,hb8,hb12,hb16]
           refine WOps_callP (c_refname _) (by simp only [ev_func]) (by simp only [evL,sS,↓sT,Nat.reduceLT,Nat.reduceEqDiff]; rfl) (by first | rfl | (simp only [List.map,op_bare,tag_bare,ref_bare,bare_str]; done) | (simp only [List.map,op_bare,tag_bare,ref_bare,bare_str]; exact rfl)) (by first | rfl | simp [op_noP,tag_noP,ref_noP,noP_str]) (by first | rfl | simp [op_noP,tag_noP,ref_noP,noP_str]) (by first | exact op_bare _ | rfl) ?_
           simp only [sS,↓sT,Nat.reduceLT,Nat.reduceEqDiff,↓sO,↓WOps_g,sG,opV,loudV,cellsOf,strOp,evL,Nat.reduceAdd,Int.reduceBEq,Int.reduceBNe,fS49,ti9,ti49,sR0,opCells,List.all_cons,List.all_nil,Bool.and_self,gt_iff_lt,lenD,hg3_4,hg3_9,hg3_16,hg3_21,hg3_26,hg3_32,hb4,hb8,hb12,hb16]
           refine stepB_T (fun hg17_3 => ?_) (fun hg17_3 => ?_)
           ·simp only [sS,↓sT,Nat.reduceLT,Nat.reduceEqDiff,↓sO,↓WOps_g,sG,opV,loudV,cellsOf,strOp,evL,Nat.reduceAdd,Int.reduceBEq,Int.reduceBNe,fS49,ti9,ti49,sR0,opCells,List.all_cons,List.all_nil,Bool.and_self,gt_iff_lt,lenD,hg3_4,hg3_9,hg3_16,hg3_21,hg3_26,hg3_32,hb4,hb8,hb12,hb16,hg17_3]
            refine WOps_callP (c_punnet_punnetref20_plain o) (by simp only [ev_func]) (by simp only [evL,sS,↓sT,Nat.reduceLT,Nat.reduceEqDiff]; rfl) (by first | rfl | (simp only [List.map,op_bare,tag_bare,ref_bare,bare_str]; done) | (simp only [List.map,op_bare,tag_bare,ref_bare,bare_str]; exact rfl)) (by first | rfl | simp [op_noP,tag_noP,ref_noP,noP_str]) (by first | rfl | simp [op_noP,tag_noP,ref_noP,noP_str]) (by first | exact op_bare _ | rfl) ?_
            simp only [sS,↓sT,Nat.reduceLT,Nat.reduceEqDiff,↓sO,↓WOps_g,sG,opV,loudV,cellsOf,strOp,evL,Nat.reduceAdd,Int.reduceBEq,Int.reduceBNe,fS49,ti9,ti49,sR0,opCells,List.all_cons,List.all_nil,Bool.and_self,gt_iff_lt,lenD,hg3_4,hg3_9,hg3_16,hg3_21,hg3_26,hg3_32,hb4,hb8,hb12,hb16,hg17_3]
            refine hN17 _ ?_; try clear hN17 hD17 N17
            refine WC_ret ?_; (try simp only [Exit.after,Exit.out]); refine Kend_ret (by simp only [resOf,resL,resV,mkS_get,slots_get,cellsOf,if_true,sS,↓sT,Nat.reduceLT,Nat.reduceEqDiff]; rfl) (by first | rfl | (simp only [if_true]; done) | (simp only [if_true,okV,ok1,okC,okP,List.all_cons,List.all_nil,Bool.and_true]; done)) ?_
            clear hN14 hD14 N14
            first | (rw [keep_bool,rightR]; simp_all [isNil,OpS.dropsL]; done) | (rw [keep_bool,rightR]; simp_all [isNil,OpS.dropsL]; omega)
           ·simp only [sS,↓sT,Nat.reduceLT,Nat.reduceEqDiff,↓sO,↓WOps_g,sG,opV,loudV,cellsOf,strOp,evL,Nat.reduceAdd,Int.reduceBEq,Int.reduceBNe,fS49,ti9,ti49,sR0,opCells,List.all_cons,List.all_nil,Bool.and_self,gt_iff_lt,lenD,hg3_4,hg3_9,hg3_16,hg3_21,hg3_26,hg3_32,hb4,hb8,hb12,hb16,hg17_3]
            refine hN17 _ ?_; try clear hN17 hD17 N17
            refine WC_ret ?_; (try simp only [Exit.after,Exit.out]); refine Kend_ret (by simp only [resOf,resL,resV,mkS_get,slots_get,cellsOf,if_true,sS,↓sT,Nat.reduceLT,Nat.reduceEqDiff]; rfl) (by first | rfl | (simp only [if_true]; done) | (simp only [if_true,okV,ok1,okC,okP,List.all_cons,List.all_nil,Bool.and_true]; done)) ?_
            clear hN14 hD14 N14
            first | (rw [keep_bool,rightR]; simp_all [isNil,OpS.dropsL]; done) | (rw [keep_bool,rightR]; simp_all [isNil,OpS.dropsL]; omega)
          ·refine WC_skip ?_
           refine hN14 _ ?_; try clear hN14 hD14 N14
           refine WC_seqN (fun N18 hN18 hD18 => ?_)
           refine WC_seqR (fun N19 hN19 hD19 => ?_)
           simp only [sS,↓sT,Nat.reduceLT,Nat.reduceEqDiff,↓sO,↓WOps_g,sG,opV,loudV,cellsOf,strOp,evL,Nat.reduceAdd,Int.reduceBEq,Int.reduceBNe,fS49,ti47,fS47,ti3,ti9,sR0,opCells,List.all_cons,List.all_nil,Bool.and_self,gt_iff_lt,lenD,hg3_4,hg3_9,hg3_16,hg3_21,hg3_26,hg3_32,hb4,hb8,hb12,hb16]
           refine WOps_callP (c_punnet_punnetref13_Place _ _ _) (by simp only [ev_func]) (by simp only [evL,sS,↓sT,Nat.reduceLT,Nat.reduceEqDiff]; rfl) (by first | rfl | (simp only [List.map,op_bare,tag_bare,ref_bare,bare_str]; done) | (simp only [List.map,op_bare,tag_bare,ref_bare,bare_str]; exact rfl)) (by first | rfl | simp [op_noP,tag_noP,ref_noP,noP_str]) (by first | rfl | simp [op_noP,tag_noP,ref_noP,noP_str]) (by first | exact op_bare _ | rfl) ?_
           simp only [sS,↓sT,Nat.reduceLT,Nat.reduceEqDiff,↓sO,↓WOps_g,sG,opV,loudV,cellsOf,strOp,evL,Nat.reduceAdd,Int.reduceBEq,Int.reduceBNe,fS49,ti47,fS47,ti3,ti9,sR0,opCells,List.all_cons,List.all_nil,Bool.and_self,gt_iff_lt,lenD,hg3_4,hg3_9,hg3_16,hg3_21,hg3_26,hg3_32,hb4,hb8,hb12,hb16]
           refine stepB_F (fun hg19_4 => ?_) (fun hg19_4 => ?_)
           ·simp only [sS,↓sT,Nat.reduceLT,Nat.reduceEqDiff,↓sO,↓WOps_g,sG,opV,loudV,cellsOf,strOp,evL,Nat.reduceAdd,Int.reduceBEq,Int.reduceBNe,fS49,ti47,fS47,ti3,ti9,sR0,opCells,List.all_cons,List.all_nil,Bool.and_self,gt_iff_lt,lenD,hg3_4,hg3_9,hg3_16,hg3_21,hg3_26,hg3_32,hb4,hb8,hb12,hb16,hg19_4]
            refine stepB_T (fun hg19_9 => ?_) (fun hg19_9 => ?_)
            ·simp only [sS,↓sT,Nat.reduceLT,Nat.reduceEqDiff,↓sO,↓WOps_g,sG,opV,loudV,cellsOf,strOp,evL,Nat.reduceAdd,Int.reduceBEq,Int.reduceBNe,fS49,ti47,fS47,ti3,ti9,sR0,opCells,List.all_cons,List.all_nil,Bool.and_self,gt_iff_lt,lenD,hg3_4,hg3_9,hg3_16,hg3_21,hg3_26,hg3_32,hb4,hb8,hb12,hb16,hg19_4,hg19_9]
             refine WOps_callP (c_refname _) (by simp only [ev_func]) (by simp only [evL,sS,↓sT,Nat.reduceLT,Nat.reduceEqDiff]; rfl) (by first | rfl | (simp only [List.map,op_bare,tag_bare,ref_bare,bare_str]; done) | (simp only [List.map,op_bare,tag_bare,ref_bare,bare_str]; exact rfl)) (by first | rfl | simp [op_noP,tag_noP,ref_noP,noP_str]) (by first | rfl | simp [op_noP,tag_noP,ref_noP,noP_str]) (by first | exact op_bare _ | rfl) ?_
             simp only [sS,↓sT,Nat.reduceLT,Nat.reduceEqDiff,↓sO,↓WOps_g,sG,opV,loudV,cellsOf,strOp,evL,Nat.reduceAdd,Int.reduceBEq,Int.reduceBNe,fS49,ti47,fS47,ti3,ti9,sR0,opCells,List.all_cons,List.all_nil,Bool.and_self,gt_iff_lt,lenD,hg3_4,hg3_9,hg3_16,hg3_21,hg3_26,hg3_32,hb4,hb8,hb12,hb16,hg19_4,hg19_9]
             refine stepB_F (fun hg19_16 => ?_) (fun hg19_16 => ?_)
             ·simp only [sS,↓sT,Nat.reduceLT,Nat.reduceEqDiff,↓sO,↓WOps_g,sG,opV,loudV,cellsOf,strOp,evL,Nat.reduceAdd,Int.reduceBEq,Int.reduceBNe,fS49,ti47,fS47,ti3,ti9,sR0,opCells,List.all_cons,List.all_nil,Bool.and_self,gt_iff_lt,lenD,hg3_4,hg3_9,hg3_16,hg3_21,hg3_26,hg3_32,hb4,hb8,hb12,hb16,hg19_4,hg19_9,hg19_16]
              refine stepB_T (fun hg19_21 => ?_) (fun hg19_21 => ?_)
              ·simp only [sS,↓sT,Nat.reduceLT,Nat.reduceEqDiff,↓sO,↓WOps_g,sG,opV,loudV,cellsOf,strOp,evL,Nat.reduceAdd,Int.reduceBEq,Int.reduceBNe,fS49,ti47,fS47,ti3,ti9,sR0,opCells,List.all_cons,List.all_nil,Bool.and_self,gt_iff_lt,lenD,hg3_4,hg3_9,hg3_16,hg3_21,hg3_26,hg3_32,hb4,hb8,hb12,hb16,hg19_4,hg19_9,hg19_16,hg19_21]
               refine hN19 _ ?_; try clear hN19 hD19 N19
               refine WC_condE ?_
               simp only [sS,↓sT,Nat.reduceLT,Nat.reduceEqDiff,↓stepC_bool,hg3_4,hg3_9,hg3_16,hg3_21,hg3_26,hg3_32,hb4,hb8,hb12,hb16,hg19_4,hg19_9,hg19_16,hg19_21,Int.reduceBEq,Int.reduceBNe,beq_self_eq_true,bne_self_eq_false]
               refine ⟨fun hb20 => ?_,fun hb20 => ?_⟩
               ·refine WC_seqR (fun N21 hN21 hD21 => ?_)
                simp only [sS,↓sT,Nat.reduceLT,Nat.reduceEqDiff,↓sO,↓WOps_g,sG,opV,loudV,cellsOf,strOp,evL,Nat.reduceAdd,Int.reduceBEq,Int.reduceBNe,sR0,opCells,List.all_cons,List.all_nil,Bool.and_self,gt_iff_lt,lenD,hg3_4,hg3_9,hg3_16,hg3_21,hg3_26,hg3_32,hb4,hb8,hb12,hb16,hg19_4,hg19_9,hg19_16,hg19_21,hb20]
                refine hN21 _ ?_; try clear hN21 hD21 N21
                refine WC_ret ?_; (try simp only [Exit.after,Exit.out]); refine Kend_ret (by simp only [resOf,resL,resV,mkS_get,slots_get,cellsOf,if_true,sS,↓sT,Nat.reduceLT,Nat.reduceEqDiff]; rfl) (by first | rfl | (simp only [if_true]; done) | (simp only [if_true,okV,ok1,okC,okP,List.all_cons,List.all_nil,Bool.and_true]; done)) ?_
                clear hN18 hD18 N18
                first | (rw [keep_bool,rightR]; simp_all [isNil,OpS.dropsL]; done) | (rw [keep_bool,rightR]; simp_all [isNil,OpS.dropsL]; omega)
               ·refine WC_skip ?_
                refine hN18 _ ?_; try clear hN18 hD18 N18
                refine WC_seqN (fun N22 hN22 hD22 => ?_)
                refine WC_seqR (fun N23 hN23 hD23 => ?_)
                simp only [sS,↓sT,Nat.reduceLT,Nat.reduceEqDiff,↓sO,↓WOps_g,sG,opV,loudV,cellsOf,strOp,evL,Nat.reduceAdd,Int.reduceBEq,Int.reduceBNe,fS49,ti3,sR0,opCells,List.all_cons,List.all_nil,Bool.and_self,gt_iff_lt,lenD,hg3_4,hg3_9,hg3_16,hg3_21,hg3_26,hg3_32,hb4,hb8,hb12,hb16,hg19_4,hg19_9,hg19_16,hg19_21,hb20]
                refine hN23 _ ?_; try clear hN23 hD23 N23
                refine WC_condE ?_
                simp only [sS,↓sT,Nat.reduceLT,Nat.reduceEqDiff,↓stepC_bool,hg3_4,hg3_9,hg3_16,hg3_21,hg3_26,hg3_32,hb4,hb8,hb12,hb16,hg19_4,hg19_9,hg19_16,hg19_21,hb20,Int.reduceBEq,Int.reduceBNe,beq_self_eq_true,bne_self_eq_false]
                refine ⟨fun hb24 => ?_,fun hb24 => ?_⟩
                ·refine WC_seqR (fun N25 hN25 hD25 => ?_)
                 simp only [sS,↓sT,Nat.reduceLT,Nat.reduceEqDiff,↓sO,↓WOps_g,sG,opV,loudV,cellsOf,strOp,evL,Nat.reduceAdd,Int.reduceBEq,Int.reduceBNe,fS49,ti4,ti9,ti38,ti2,sR0,opCells,List.all_cons,List.all_nil,Bool.and_self,gt_iff_lt,lenD,hg3_4,hg3_9,hg3_16,hg3_21,hg3_26,hg3_32,hb4,hb8,hb12,hb16,hg19_4,hg19_9,hg19_16,hg19_21,hb20,hb24]
                 refine stepB_T (fun hg25_3 => ?_) (fun hg25_3 => ?_)
                 ·simp only [sS,↓sT,Nat.reduceLT,Nat.reduceEqDiff,↓sO,↓WOps_g,sG,opV,loudV,cellsOf,strOp,evL,Nat.reduceAdd,Int.reduceBEq,Int.reduceBNe,fS49,ti4,ti9,ti38,ti2,sR0,opCells,List.all_cons,List.all_nil,Bool.and_self,gt_iff_lt,lenD,hg3_4,hg3_9,hg3_16,hg3_21,hg3_26,hg3_32,hb4,hb8,hb12,hb16,hg19_4,hg19_9,hg19_16,hg19_21,hb20,hb24,hg25_3]
                  refine stepB_T (fun hg25_8 => ?_) (fun hg25_8 => ?_)
                  ·simp only [sS,↓sT,Nat.reduceLT,Nat.reduceEqDiff,↓sO,↓WOps_g,sG,opV,loudV,cellsOf,strOp,evL,Nat.reduceAdd,Int.reduceBEq,Int.reduceBNe,fS49,ti4,ti9,ti38,ti2,sR0,opCells,List.all_cons,List.all_nil,Bool.and_self,gt_iff_lt,lenD,hg3_4,hg3_9,hg3_16,hg3_21,hg3_26,hg3_32,hb4,hb8,hb12,hb16,hg19_4,hg19_9,hg19_16,hg19_21,hb20,hb24,hg25_3,hg25_8]
                   refine stepB_T (fun hg25_14 => ?_) (fun hg25_14 => ?_)
                   ·simp only [sS,↓sT,Nat.reduceLT,Nat.reduceEqDiff,↓sO,↓WOps_g,sG,opV,loudV,cellsOf,strOp,evL,Nat.reduceAdd,Int.reduceBEq,Int.reduceBNe,fS49,ti4,ti9,ti38,ti2,sR0,opCells,List.all_cons,List.all_nil,Bool.and_self,gt_iff_lt,lenD,hg3_4,hg3_9,hg3_16,hg3_21,hg3_26,hg3_32,hb4,hb8,hb12,hb16,hg19_4,hg19_9,hg19_16,hg19_21,hb20,hb24,hg25_3,hg25_8,hg25_14]
                    refine stepB_T (fun hg25_19 => ?_) (fun hg25_19 => ?_)
                    ·simp only [sS,↓sT,Nat.reduceLT,Nat.reduceEqDiff,↓sO,↓WOps_g,sG,opV,loudV,cellsOf,strOp,evL,Nat.reduceAdd,Int.reduceBEq,Int.reduceBNe,fS49,ti4,ti9,ti38,ti2,sR0,opCells,List.all_cons,List.all_nil,Bool.and_self,gt_iff_lt,lenD,hg3_4,hg3_9,hg3_16,hg3_21,hg3_26,hg3_32,hb4,hb8,hb12,hb16,hg19_4,hg19_9,hg19_16,hg19_21,hb20,hb24,hg25_3,hg25_8,hg25_14,hg25_19]
                     refine hN25 _ ?_; try clear hN25 hD25 N25
                     refine WC_ret ?_; (try simp only [Exit.after,Exit.out]); refine Kend_ret (by simp only [resOf,resL,resV,mkS_get,slots_get,cellsOf,if_true,sS,↓sT,Nat.reduceLT,Nat.reduceEqDiff]; rfl) (by first | rfl | (simp only [if_true]; done) | (simp only [if_true,okV,ok1,okC,okP,List.all_cons,List.all_nil,Bool.and_true]; done)) ?_
                     clear hN22 hD22 N22
                     first | (rw [keep_bool,rightR]; simp_all [isNil,OpS.dropsL]; done) | (rw [keep_bool,rightR]; simp_all [isNil,OpS.dropsL]; omega)
                    ·simp only [sS,↓sT,Nat.reduceLT,Nat.reduceEqDiff,↓sO,↓WOps_g,sG,opV,loudV,cellsOf,strOp,evL,Nat.reduceAdd,Int.reduceBEq,Int.reduceBNe,fS49,ti4,ti9,ti38,ti2,sR0,opCells,List.all_cons,List.all_nil,Bool.and_self,gt_iff_lt,lenD,hg3_4,hg3_9,hg3_16,hg3_21,hg3_26,hg3_32,hb4,hb8,hb12,hb16,hg19_4,hg19_9,hg19_16,hg19_21,hb20,hb24,hg25_3,hg25_8,hg25_14,hg25_19]
                     refine hN25 _ ?_; try clear hN25 hD25 N25
                     refine WC_ret ?_; (try simp only [Exit.after,Exit.out]); refine Kend_ret (by simp only [resOf,resL,resV,mkS_get,slots_get,cellsOf,if_true,sS,↓sT,Nat.reduceLT,Nat.reduceEqDiff]; rfl) (by first | rfl | (simp only [if_true]; done) | (simp only [if_true,okV,ok1,okC,okP,List.all_cons,List.all_nil,Bool.and_true]; done)) ?_
                     clear hN22 hD22 N22
                     first | (rw [keep_bool,rightR]; simp_all [isNil,OpS.dropsL]; done) | (rw [keep_bool,rightR]; simp_all [isNil,OpS.dropsL]; omega)
                   ·simp only [sS,↓sT,Nat.reduceLT,Nat.reduceEqDiff,↓sO,↓WOps_g,sG,opV,loudV,cellsOf,strOp,evL,Nat.reduceAdd,Int.reduceBEq,Int.reduceBNe,fS49,ti4,ti9,ti38,ti2,sR0,opCells,List.all_cons,List.all_nil,Bool.and_self,gt_iff_lt,lenD,hg3_4,hg3_9,hg3_16,hg3_21,hg3_26,hg3_32,hb4,hb8,hb12,hb16,hg19_4,hg19_9,hg19_16,hg19_21,hb20,hb24,hg25_3,hg25_8,hg25_14]
                    refine hN25 _ ?_; try clear hN25 hD25 N25
                    refine WC_ret ?_; (try simp only [Exit.after,Exit.out]); refine Kend_ret (by simp only [resOf,resL,resV,mkS_get,slots_get,cellsOf,if_true,sS,↓sT,Nat.reduceLT,Nat.reduceEqDiff]; rfl) (by first | rfl | (simp only [if_true]; done) | (simp only [if_true,okV,ok1,okC,okP,List.all_cons,List.all_nil,Bool.and_true]; done)) ?_
                    clear hN22 hD22 N22
                    first | (rw [keep_bool,rightR]; simp_all [isNil,OpS.dropsL]; done) | (rw [keep_bool,rightR]; simp_all [isNil,OpS.dropsL]; omega)
                  ·simp only [sS,↓sT,Nat.reduceLT,Nat.reduceEqDiff,↓sO,↓WOps_g,sG,opV,loudV,cellsOf,strOp,evL,Nat.reduceAdd,Int.reduceBEq,Int.reduceBNe,fS49,ti4,ti9,ti38,ti2,sR0,opCells,List.all_cons,List.all_nil,Bool.and_self,gt_iff_lt,lenD,hg3_4,hg3_9,hg3_16,hg3_21,hg3_26,hg3_32,hb4,hb8,hb12,hb16,hg19_4,hg19_9,hg19_16,hg19_21,hb20,hb24,hg25_3,hg25_8]
                   refine hN25 _ ?_; try clear hN25 hD25 N25
                   refine WC_ret ?_; (try simp only [Exit.after,Exit.out]); refine Kend_ret (by simp only [resOf,resL,resV,mkS_get,slots_get,cellsOf,if_true,sS,↓sT,Nat.reduceLT,Nat.reduceEqDiff]; rfl) (by first | rfl | (simp only [if_true]; done) | (simp only [if_true,okV,ok1,okC,okP,List.all_cons,List.all_nil,Bool.and_true]; done)) ?_
                   clear hN22 hD22 N22
                   first | (rw [keep_bool,rightR]; simp_all [isNil,OpS.dropsL]; done) | (rw [keep_bool,rightR]; simp_all [isNil,OpS.dropsL]; omega)
                 ·simp only [sS,↓sT,Nat.reduceLT,Nat.reduceEqDiff,↓sO,↓WOps_g,sG,opV,loudV,cellsOf,strOp,evL,Nat.reduceAdd,Int.reduceBEq,Int.reduceBNe,fS49,ti4,ti9,ti38,ti2,sR0,opCells,List.all_cons,List.all_nil,Bool.and_self,gt_iff_lt,lenD,hg3_4,hg3_9,hg3_16,hg3_21,hg3_26,hg3_32,hb4,hb8,hb12,hb16,hg19_4,hg19_9,hg19_16,hg19_21,hb20,hb24,hg25_3]
                  refine hN25 _ ?_; try clear hN25 hD25 N25
                  refine WC_ret ?_; (try simp only [Exit.after,Exit.out]); refine Kend_ret (by simp only [resOf,resL,resV,mkS_get,slots_get,cellsOf,if_true,sS,↓sT,Nat.reduceLT,Nat.reduceEqDiff]; rfl) (by first | rfl | (simp only [if_true]; done) | (simp only [if_true,okV,ok1,okC,okP,List.all_cons,List.all_nil,Bool.and_true]; done)) ?_
                  clear hN22 hD22 N22
                  first | (rw [keep_bool,rightR]; simp_all [isNil,OpS.dropsL]; done) | (rw [keep_bool,rightR]; simp_all [isNil,OpS.dropsL]; omega)
                ·refine WC_skip ?_
                 refine hN22 _ ?_; try clear hN22 hD22 N22
                 refine WC_seqR (fun N26 hN26 hD26 => ?_)
                 simp only [sS,↓sT,Nat.reduceLT,Nat.reduceEqDiff,↓sO,↓WOps_g,sG,opV,loudV,cellsOf,strOp,evL,Nat.reduceAdd,Int.reduceBEq,Int.reduceBNe,fS49,ti3,ti2,ti4,ti9,sR0,opCells,List.all_cons,List.all_nil,Bool.and_self,gt_iff_lt,lenD,hg3_4,hg3_9,hg3_16,hg3_21,hg3_26,hg3_32,hb4,hb8,hb12,hb16,hg19_4,hg19_9,hg19_16,hg19_21,hb20,hb24]
                 refine stepB_T (fun hg26_3 => ?_) (fun hg26_3 => ?_)
                 ·simp only [sS,↓sT,Nat.reduceLT,Nat.reduceEqDiff,↓sO,↓WOps_g,sG,opV,loudV,cellsOf,strOp,evL,Nat.reduceAdd,Int.reduceBEq,Int.reduceBNe,fS49,ti3,ti2,ti4,ti9,sR0,opCells,List.all_cons,List.all_nil,Bool.and_self,gt_iff_lt,lenD,hg3_4,hg3_9,hg3_16,hg3_21,hg3_26,hg3_32,hb4,hb8,hb12,hb16,hg19_4,hg19_9,hg19_16,hg19_21,hb20,hb24,hg26_3]
                  refine stepB_T (fun hg26_8 => ?_) (fun hg26_8 => ?_)
                  ·simp only [sS,↓sT,Nat.reduceLT,Nat.reduceEqDiff,↓sO,↓WOps_g,sG,opV,loudV,cellsOf,strOp,evL,Nat.reduceAdd,Int.reduceBEq,Int.reduceBNe,fS49,ti3,ti2,ti4,ti9,sR0,opCells,List.all_cons,List.all_nil,Bool.and_self,gt_iff_lt,lenD,hg3_4,hg3_9,hg3_16,hg3_21,hg3_26,hg3_32,hb4,hb8,hb12,hb16,hg19_4,hg19_9,hg19_16,hg19_21,hb20,hb24,hg26_3,hg26_8]
                   refine stepB_T (fun hg26_11 => ?_) (fun hg26_11 => ?_)
                   ·simp only [sS,↓sT,Nat.reduceLT,Nat.reduceEqDiff,↓sO,↓WOps_g,sG,opV,loudV,cellsOf,strOp,evL,Nat.reduceAdd,Int.reduceBEq,Int.reduceBNe,fS49,ti3,ti2,ti4,ti9,sR0,opCells,List.all_cons,List.all_nil,Bool.and_self,gt_iff_lt,lenD,hg3_4,hg3_9,hg3_16,hg3_21,hg3_26,hg3_32,hb4,hb8,hb12,hb16,hg19_4,hg19_9,hg19_16,hg19_21,hb20,hb24,hg26_3,hg26_8,hg26_11]
                    refine stepB_F (fun hg26_17 => ?_) (fun hg26_17 => ?_)
                    ·simp only [sS,↓sT,Nat.reduceLT,Nat.reduceEqDiff,↓sO,↓WOps_g,sG,opV,loudV,cellsOf,strOp,evL,Nat.reduceAdd,Int.reduceBEq,Int.reduceBNe,fS49,ti3,ti2,ti4,ti9,sR0,opCells,List.all_cons,List.all_nil,Bool.and_self,gt_iff_lt,lenD,hg3_4,hg3_9,hg3_16,hg3_21,hg3_26,hg3_32,hb4,hb8,hb12,hb16,hg19_4,hg19_9,hg19_16,hg19_21,hb20,hb24,hg26_3,hg26_8,hg26_11,hg26_17]
                     refine hN26 _ ?_; try clear hN26 hD26 N26
                     refine WC_ret ?_; (try simp only [Exit.after,Exit.out]); refine Kend_ret (by simp only [resOf,resL,resV,mkS_get,slots_get,cellsOf,if_true,sS,↓sT,Nat.reduceLT,Nat.reduceEqDiff]; rfl) (by first | rfl | (simp only [if_true]; done) | (simp only [if_true,okV,ok1,okC,okP,List.all_cons,List.all_nil,Bool.and_true]; done)) ?_
                     first | (rw [keep_bool,rightR]; simp_all [isNil,OpS.dropsL]; done) | (rw [keep_bool,rightR]; simp_all [isNil,OpS.dropsL]; omega)
                    ·simp only [sS,↓sT,Nat.reduceLT,Nat.reduceEqDiff,↓sO,↓WOps_g,sG,opV,loudV,cellsOf,strOp,evL,Nat.reduceAdd,Int.reduceBEq,Int.reduceBNe,fS49,ti3,ti2,ti4,ti9,sR0,opCells,List.all_cons,List.all_nil,Bool.and_self,gt_iff_lt,lenD,hg3_4,hg3_9,hg3_16,hg3_21,hg3_26,hg3_32,hb4,hb8,hb12,hb16,hg19_4,hg19_9,hg19_16,hg19_21,hb20,hb24,hg26_3,hg26_8,hg26_11,hg26_17]
                     refine hN26 _ ?_; try clear hN26 hD26 N26
                     refine WC_ret ?_; (try simp only [Exit.after,Exit.out]); refine Kend_ret (by simp only [resOf,resL,resV,mkS_get,slots_get,cellsOf,if_true,sS,↓sT,Nat.reduceLT,Nat.reduceEqDiff]; rfl) (by first | rfl | (simp only [if_true]; done) | (simp only [if_true,okV,ok1,okC,okP,List.all_cons,List.all_nil,Bool.and_true]; done)) ?_
                     first | (rw [keep_bool,rightR]; simp_all [isNil,OpS.dropsL]; done) | (rw [keep_bool,rightR]; simp_all [isNil,OpS.dropsL]; omega)
                   ·simp only [sS,↓sT,Nat.reduceLT,Nat.reduceEqDiff,↓sO,↓WOps_g,sG,opV,loudV,cellsOf,strOp,evL,Nat.reduceAdd,Int.reduceBEq,Int.reduceBNe,fS49,ti3,ti2,ti4,ti9,sR0,opCells,List.all_cons,List.all_nil,Bool.and_self,gt_iff_lt,lenD,hg3_4,hg3_9,hg3_16,hg3_21,hg3_26,hg3_32,hb4,hb8,hb12,hb16,hg19_4,hg19_9,hg19_16,hg19_21,hb20,hb24,hg26_3,hg26_8,hg26_11]
                    refine hN26 _ ?_; try clear hN26 hD26 N26
                    refine WC_ret ?_; (try simp only [Exit.after,Exit.out]); refine Kend_ret (by simp only [resOf,resL,resV,mkS_get,slots_get,cellsOf,if_true,sS,↓sT,Nat.reduceLT,Nat.reduceEqDiff]; rfl) (by first | rfl | (simp only [if_true]; done) | (simp only [if_true,okV,ok1,okC,okP,List.all_cons,List.all_nil,Bool.and_true]; done)) ?_
                    first | (rw [keep_bool,rightR]; simp_all [isNil,OpS.dropsL]; done) | (rw [keep_bool,rightR]; simp_all [isNil,OpS.dropsL]; omega)
                  ·simp only [sS,↓sT,Nat.reduceLT,Nat.reduceEqDiff,↓sO,↓WOps_g,sG,opV,loudV,cellsOf,strOp,evL,Nat.reduceAdd,Int.reduceBEq,Int.reduceBNe,fS49,ti3,ti2,ti4,ti9,sR0,opCells,List.all_cons,List.all_nil,Bool.and_self,gt_iff_lt,lenD,hg3_4,hg3_9,hg3_16,hg3_21,hg3_26,hg3_32,hb4,hb8,hb12,hb16,hg19_4,hg19_9,hg19_16,hg19_21,hb20,hb24,hg26_3,hg26_8]
                   refine hN26 _ ?_; try clear hN26 hD26 N26
                   refine WC_ret ?_; (try simp only [Exit.after,Exit.out]); refine Kend_ret (by simp only [resOf,resL,resV,mkS_get,slots_get,cellsOf,if_true,sS,↓sT,Nat.reduceLT,Nat.reduceEqDiff]; rfl) (by first | rfl | (simp only [if_true]; done) | (simp only [if_true,okV,ok1,okC,okP,List.all_cons,List.all_nil,Bool.and_true]; done)) ?_
                   first | (rw [keep_bool,rightR]; simp_all [isNil,OpS.dropsL]; done) | (rw [keep_bool,rightR]; simp_all [isNil,OpS.dropsL]; omega)
                 ·simp only [sS,↓sT,Nat.reduceLT,Nat.reduceEqDiff,↓sO,↓WOps_g,sG,opV,loudV,cellsOf,strOp,evL,Nat.reduceAdd,Int.reduceBEq,Int.reduceBNe,fS49,ti3,ti2,ti4,ti9,sR0,opCells,List.all_cons,List.all_nil,Bool.and_self,gt_iff_lt,lenD,hg3_4,hg3_9,hg3_16,hg3_21,hg3_26,hg3_32,hb4,hb8,hb12,hb16,hg19_4,hg19_9,hg19_16,hg19_21,hb20,hb24,hg26_3]
                  refine hN26 _ ?_; try clear hN26 hD26 N26
                  refine WC_ret ?_; (try simp only [Exit.after,Exit.out]); refine Kend_ret (by simp only [resOf,resL,resV,mkS_get,slots_get,cellsOf,if_true,sS,↓sT,Nat.reduceLT,Nat.reduceEqDiff]; rfl) (by first | rfl | (simp only [if_true]; done) | (simp only [if_true,okV,ok1,okC,okP,List.all_cons,List.all_nil,Bool.and_true]; done)) ?_
                  first | (rw [keep_bool,rightR]; simp_all [isNil,OpS.dropsL]; done) | (rw [keep_bool,rightR]; simp_all [isNil,OpS.dropsL]; omega)
              ·simp only [sS,↓sT,Nat.reduceLT,Nat.reduceEqDiff,↓sO,↓WOps_g,sG,opV,loudV,cellsOf,strOp,evL,Nat.reduceAdd,Int.reduceBEq,Int.reduceBNe,fS49,ti47,fS47,ti3,ti9,sR0,opCells,List.all_cons,List.all_nil,Bool.and_self,gt_iff_lt,lenD,hg3_4,hg3_9,hg3_16,hg3_21,hg3_26,hg3_32,hb4,hb8,hb12,hb16,hg19_4,hg19_9,hg19_16,hg19_21]
               refine hN19 _ ?_; try clear hN19 hD19 N19
               refine WC_condE ?_
               simp only [sS,↓sT,Nat.reduceLT,Nat.reduceEqDiff,↓stepC_bool,hg3_4,hg3_9,hg3_16,hg3_21,hg3_26,hg3_32,hb4,hb8,hb12,hb16,hg19_4,hg19_9,hg19_16,hg19_21,Int.reduceBEq,Int.reduceBNe,beq_self_eq_true,bne_self_eq_false]
               refine ⟨fun hb => (by cases hb),fun hb => ?_⟩
               refine WC_skip ?_
               refine hN18 _ ?_; try clear hN18 hD18 N18
               refine WC_seqN (fun N27 hN27 hD27 => ?_)
               refine WC_seqR (fun N28 hN28 hD28 => ?_)
               simp only [sS,↓sT,Nat.reduceLT,Nat.reduceEqDiff,↓sO,↓WOps_g,sG,opV,loudV,cellsOf,strOp,evL,Nat.reduceAdd,Int.reduceBEq,Int.reduceBNe,fS49,ti3,sR0,opCells,List.all_cons,List.all_nil,Bool.and_self,gt_iff_lt,lenD,hg3_4,hg3_9,hg3_16,hg3_21,hg3_26,hg3_32,hb4,hb8,hb12,hb16,hg19_4,hg19_9,hg19_16,hg19_21]
               refine hN28 _ ?_; try clear hN28 hD28 N28
               refine WC_condE ?_
               simp only [sS,↓sT,Nat.reduceLT,Nat.reduceEqDiff,↓stepC_bool,hg3_4,hg3_9,hg3_16,hg3_21,hg3_26,hg3_32,hb4,hb8,hb12,hb16,hg19_4,hg19_9,hg19_16,hg19_21,Int.reduceBEq,Int.reduceBNe,beq_self_eq_true,bne_self_eq_false]
               refine ⟨fun hb29 => ?_,fun hb29 => ?_⟩
               ·refine WC_seqR (fun N30 hN30 hD30 => ?_)
                simp only [sS,↓sT,Nat.reduceLT,Nat.reduceEqDiff,↓sO,↓WOps_g,sG,opV,loudV,cellsOf,strOp,evL,Nat.reduceAdd,Int.reduceBEq,Int.reduceBNe,fS49,ti4,ti9,ti38,ti2,sR0,opCells,List.all_cons,List.all_nil,Bool.and_self,gt_iff_lt,lenD,hg3_4,hg3_9,hg3_16,hg3_21,hg3_26,hg3_32,hb4,hb8,hb12,hb16,hg19_4,hg19_9,hg19_16,hg19_21,hb29]
                refine stepB_T (fun hg30_3 => ?_) (fun hg30_3 => ?_)
                ·simp only [sS,↓sT,Nat.reduceLT,Nat.reduceEqDiff,↓sO,↓WOps_g,sG,opV,loudV,cellsOf,strOp,evL,Nat.reduceAdd,Int.reduceBEq,Int.reduceBNe,fS49,ti4,ti9,ti38,ti2,sR0,opCells,List.all_cons,List.all_nil,Bool.and_self,gt_iff_lt,lenD,hg3_4,hg3_9,hg3_16,hg3_21,hg3_26,hg3_32,hb4,hb8,hb12,hb16,hg19_4,hg19_9,hg19_16,hg19_21,hb29,hg30_3]
                 refine stepB_T (fun hg30_8 => ?_) (fun hg30_8 => ?_)
                 ·simp only [sS,↓sT,Nat.reduceLT,Nat.reduceEqDiff,↓sO,↓WOps_g,sG,opV,loudV,cellsOf,strOp,evL,Nat.reduceAdd,Int.reduceBEq,Int.reduceBNe,fS49,ti4,ti9,ti38,ti2,sR0,opCells,List.all_cons,List.all_nil,Bool.and_self,gt_iff_lt,lenD,hg3_4,hg3_9,hg3_16,hg3_21,hg3_26,hg3_32,hb4,hb8,hb12,hb16,hg19_4,hg19_9,hg19_16,hg19_21,hb29,hg30_3,hg30_8]
                  refine stepB_T (fun hg30_14 => ?_) (fun hg30_14 => ?_)
                  ·simp only [sS,↓sT,Nat.reduceLT,Nat.reduceEqDiff,↓sO,↓WOps_g,sG,opV,loudV,cellsOf,strOp,evL,Nat.reduceAdd,Int.reduceBEq,Int.reduceBNe,fS49,ti4,ti9,ti38,ti2,sR0,opCells,List.all_cons,List.all_nil,Bool.and_self,gt_iff_lt,lenD,hg3_4,hg3_9,hg3_16,hg3_21,hg3_26,hg3_32,hb4,hb8,hb12,hb16,hg19_4,hg19_9,hg19_16,hg19_21,hb29,hg30_3,hg30_8,hg30_14]
                   refine stepB_T (fun hg30_19 => ?_) (fun hg30_19 => ?_)
                   ·simp only [sS,↓sT,Nat.reduceLT,Nat.reduceEqDiff,↓sO,↓WOps_g,sG,opV,loudV,cellsOf,strOp,evL,Nat.reduceAdd,Int.reduceBEq,Int.reduceBNe,fS49,ti4,ti9,ti38,ti2,sR0,opCells,List.all_cons,List.all_nil,Bool.and_self,gt_iff_lt,lenD,hg3_4,hg3_9,hg3_16,hg3_21,hg3_26,hg3_32,hb4,hb8,hb12,hb16,hg19_4,hg19_9,hg19_16,hg19_21,hb29,hg30_3,hg30_8,hg30_14,hg30_19]
                    refine hN30 _ ?_; try clear hN30 hD30 N30
                    refine WC_ret ?_; (try simp only [Exit.after,Exit.out]); refine Kend_ret (by simp only [resOf,resL,resV,mkS_get,slots_get,cellsOf,if_true,sS,↓sT,Nat.reduceLT,Nat.reduceEqDiff]; rfl) (by first | rfl | (simp only [if_true]; done) | (simp only [if_true,okV,ok1,okC,okP,List.all_cons,List.all_nil,Bool.and_true]; done)) ?_
                    clear hN27 hD27 N27
                    first | (rw [keep_bool,rightR]; simp_all [isNil,OpS.dropsL]; done) | (rw [keep_bool,rightR]; simp_all [isNil,OpS.dropsL]; omega)
                   ·simp only [sS,↓sT,Nat.reduceLT,Nat.reduceEqDiff,↓sO,↓WOps_g,sG,opV,loudV,cellsOf,strOp,evL,Nat.reduceAdd,Int.reduceBEq,Int.reduceBNe,fS49,ti4,ti9,ti38,ti2,sR0,opCells,List.all_cons,List.all_nil,Bool.and_self,gt_iff_lt,lenD,hg3_4,hg3_9,hg3_16,hg3_21,hg3_26,hg3_32,hb4,hb8,hb12,hb16,hg19_4,hg19_9,hg19_16,hg19_21,hb29,hg30_3,hg30_8,hg30_14,hg30_19]
                    refine hN30 _ ?_; try clear hN30 hD30 N30
                    refine WC_ret ?_; (try simp only [Exit.after,Exit.out]); refine Kend_ret (by simp only [resOf,resL,resV,mkS_get,slots_get,cellsOf,if_true,sS,↓sT,Nat.reduceLT,Nat.reduceEqDiff]; rfl) (by first | rfl | (simp only [if_true]; done) | (simp only [if_true,okV,ok1,okC,okP,List.all_cons,List.all_nil,Bool.and_true]; done)) ?_
                    clear hN27 hD27 N27
                    first | (rw [keep_bool,rightR]; simp_all [isNil,OpS.dropsL]; done) | (rw [keep_bool,rightR]; simp_all [isNil,OpS.dropsL]; omega)
                  ·simp only [sS,↓sT,Nat.reduceLT,Nat.reduceEqDiff,↓sO,↓WOps_g,sG,opV,loudV,cellsOf,strOp,evL,Nat.reduceAdd,Int.reduceBEq,Int.reduceBNe,fS49,ti4,ti9,ti38,ti2,sR0,opCells,List.all_cons,List.all_nil,Bool.and_self,gt_iff_lt,lenD,hg3_4,hg3_9,hg3_16,hg3_21,hg3_26,hg3_32,hb4,hb8,hb12,hb16,hg19_4,hg19_9,hg19_16,hg19_21,hb29,hg30_3,hg30_8,hg30_14]
                   refine hN30 _ ?_; try clear hN30 hD30 N30
                   refine WC_ret ?_; (try simp only [Exit.after,Exit.out]); refine Kend_ret (by simp only [resOf,resL,resV,mkS_get,slots_get,cellsOf,if_true,sS,↓sT,Nat.reduceLT,Nat.reduceEqDiff]; rfl) (by first | rfl | (simp only [if_true]; done) | (simp only [if_true,okV,ok1,okC,okP,List.all_cons,List.all_nil,Bool.and_true]; done)) ?_
                   clear hN27 hD27 N27
                   first | (rw [keep_bool,rightR]; simp_all [isNil,OpS.dropsL]; done) | (rw [keep_bool,rightR]; simp_all [isNil,OpS.dropsL]; omega)
                 ·simp only [sS,↓sT,Nat.reduceLT,Nat.reduceEqDiff,↓sO,↓WOps_g,sG,opV,loudV,cellsOf,strOp,evL,Nat.reduceAdd,Int.reduceBEq,Int.reduceBNe,fS49,ti4,ti9,ti38,ti2,sR0,opCells,List.all_cons,List.all_nil,Bool.and_self,gt_iff_lt,lenD,hg3_4,hg3_9,hg3_16,hg3_21,hg3_26,hg3_32,hb4,hb8,hb12,hb16,hg19_4,hg19_9,hg19_16,hg19_21,hb29,hg30_3,hg30_8]
                  refine hN30 _ ?_; try clear hN30 hD30 N30
                  refine WC_ret ?_; (try simp only [Exit.after,Exit.out]); refine Kend_ret (by simp only [resOf,resL,resV,mkS_get,slots_get,cellsOf,if_true,sS,↓sT,Nat.reduceLT,Nat.reduceEqDiff]; rfl) (by first | rfl | (simp only [if_true]; done) | (simp only [if_true,okV,ok1,okC,okP,List.all_cons,List.all_nil,Bool.and_true]; done)) ?_
                  clear hN27 hD27 N27
                  first | (rw [keep_bool,rightR]; simp_all [isNil,OpS.dropsL]; done) | (rw [keep_bool,rightR]; simp_all [isNil,OpS.dropsL]; omega)
                ·simp only [sS,↓sT,Nat.reduceLT,Nat.reduceEqDiff,↓sO,↓WOps_g,sG,opV,loudV,cellsOf,strOp,evL,Nat.reduceAdd,Int.reduceBEq,Int.reduceBNe,fS49,ti4,ti9,ti38,ti2,sR0,opCells,List.all_cons,List.all_nil,Bool.and_self,gt_iff_lt,lenD,hg3_4,hg3_9,hg3_16,hg3_21,hg3_26,hg3_32,hb4,hb8,hb12,hb16,hg19_4,hg19_9,hg19_16,hg19_21,hb29,hg30_3]
                 refine hN30 _ ?_; try clear hN30 hD30 N30
                 refine WC_ret ?_; (try simp only [Exit.after,Exit.out]); refine Kend_ret (by simp only [resOf,resL,resV,mkS_get,slots_get,cellsOf,if_true,sS,↓sT,Nat.reduceLT,Nat.reduceEqDiff]; rfl) (by first | rfl | (simp only [if_true]; done) | (simp only [if_true,okV,ok1,okC,okP,List.all_cons,List.all_nil,Bool.and_true]; done)) ?_
                 clear hN27 hD27 N27
                 first | (rw [keep_bool,rightR]; simp_all [isNil,OpS.dropsL]; done) | (rw [keep_bool,rightR]; simp_all [isNil,OpS.dropsL]; omega)
               ·refine WC_skip ?_
                refine hN27 _ ?_; try clear hN27 hD27 N27
                refine WC_seqR (fun N31 hN31 hD31 => ?_)
                simp only [sS,↓sT,Nat.reduceLT,Nat.reduceEqDiff,↓sO,↓WOps_g,sG,opV,loudV,cellsOf,strOp,evL,Nat.reduceAdd,Int.reduceBEq,Int.reduceBNe,fS49,ti3,ti2,ti4,ti9,sR0,opCells,List.all_cons,List.all_nil,Bool.and_self,gt_iff_lt,lenD,hg3_4,hg3_9,hg3_16,hg3_21,hg3_26,hg3_32,hb4,hb8,hb12,hb16,hg19_4,hg19_9,hg19_16,hg19_21,hb29]
                refine stepB_T (fun hg31_3 => ?_) (fun hg31_3 => ?_)
                ·simp only [sS,↓sT,Nat.reduceLT,Nat.reduceEqDiff,↓sO,↓WOps_g,sG,opV,loudV,cellsOf,strOp,evL,Nat.reduceAdd,Int.reduceBEq,Int.reduceBNe,fS49,ti3,ti2,ti4,ti9,sR0,opCells,List.all_cons,List.all_nil,Bool.and_self,gt_iff_lt,lenD,hg3_4,hg3_9,hg3_16,hg3_21,hg3_26,hg3_32,hb4,hb8,hb12,hb16,hg19_4,hg19_9,hg19_16,hg19_21,hb29,hg31_3]
                 refine stepB_T (fun hg31_8 => ?_) (fun hg31_8 => ?_)
                 ·simp only [sS,↓sT,Nat.reduceLT,Nat.reduceEqDiff,↓sO,↓WOps_g,sG,opV,loudV,cellsOf,strOp,evL,Nat.reduceAdd,Int.reduceBEq,Int.reduceBNe,fS49,ti3,ti2,ti4,ti9,sR0,opCells,List.all_cons,List.all_nil,Bool.and_self,gt_iff_lt,lenD,hg3_4,hg3_9,hg3_16,hg3_21,hg3_26,hg3_32,hb4,hb8,hb12,hb16,hg19_4,hg19_9,hg19_16,hg19_21,hb29,hg31_3,hg31_8]
                  refine stepB_T (fun hg31_11 => ?_) (fun hg31_11 => ?_)
                  ·simp only [sS,↓sT,Nat.reduceLT,Nat.reduceEqDiff,↓sO,↓WOps_g,sG,opV,loudV,cellsOf,strOp,evL,Nat.reduceAdd,Int.reduceBEq,Int.reduceBNe,fS49,ti3,ti2,ti4,ti9,sR0,opCells,List.all_cons,List.all_nil,Bool.and_self,gt_iff_lt,lenD,hg3_4,hg3_9,hg3_16,hg3_21,hg3_26,hg3_32,hb4,hb8,hb12,hb16,hg19_4,hg19_9,hg19_16,hg19_21,hb29,hg31_3,hg31_8,hg31_11]
                   refine stepB_F (fun hg31_17 => ?_) (fun hg31_17 => ?_)
                   ·simp only [sS,↓sT,Nat.reduceLT,Nat.reduceEqDiff,↓sO,↓WOps_g,sG,opV,loudV,cellsOf,strOp,evL,Nat.reduceAdd,Int.reduceBEq,Int.reduceBNe,fS49,ti3,ti2,ti4,ti9,sR0,opCells,List.all_cons,List.all_nil,Bool.and_self,gt_iff_lt,lenD,hg3_4,hg3_9,hg3_16,hg3_21,hg3_26,hg3_32,hb4,hb8,hb12,hb16,hg19_4,hg19_9,hg19_16,hg19_21,hb29,hg31_3,hg31_8,hg31_11,hg31_17]
                    refine hN31 _ ?_; try clear hN31 hD31 N31
                    refine WC_ret ?_; (try simp only [Exit.after,Exit.out]); refine Kend_ret (by simp only [resOf,resL,resV,mkS_get,slots_get,cellsOf,if_true,sS,↓sT,Nat.reduceLT,Nat.reduceEqDiff]; rfl) (by first | rfl | (simp only [if_true]; done) | (simp only [if_true,okV,ok1,okC,okP,List.all_cons,List.all_nil,Bool.and_true]; done)) ?_
                    first | (rw [keep_bool,rightR]; simp_all [isNil,OpS.dropsL]; done) | (rw [keep_bool,rightR]; simp_all [isNil,OpS.dropsL]; omega)
                   ·simp only [sS,↓sT,Nat.reduceLT,Nat.reduceEqDiff,↓sO,↓WOps_g,sG,opV,loudV,cellsOf,strOp,evL,Nat.reduceAdd,Int.reduceBEq,Int.reduceBNe,fS49,ti3,ti2,ti4,ti9,sR0,opCells,List.all_cons,List.all_nil,Bool.and_self,gt_iff_lt,lenD,hg3_4,hg3_9,hg3_16,hg3_21,hg3_26,hg3_32,hb4,hb8,hb12,hb16,hg19_4,hg19_9,hg19_16,hg19_21,hb29,hg31_3,hg31_8,hg31_11,hg31_17]
                    refine hN31 _ ?_; try clear hN31 hD31 N31
                    refine WC_ret ?_; (try simp only [Exit.after,Exit.out]); refine Kend_ret (by simp only [resOf,resL,resV,mkS_get,slots_get,cellsOf,if_true,sS,↓sT,Nat.reduceLT,Nat.reduceEqDiff]; rfl) (by first | rfl | (simp only [if_true]; done) | (simp only [if_true,okV,ok1,okC,okP,List.all_cons,List.all_nil,Bool.and_true]; done)) ?_
                    first | (rw [keep_bool,rightR]; simp_all [isNil,OpS.dropsL]; done) | (rw [keep_bool,rightR]; simp_all [isNil,OpS.dropsL]; omega)
                  ·simp only [sS,↓sT,Nat.reduceLT,Nat.reduceEqDiff,↓sO,↓WOps_g,sG,opV,loudV,cellsOf,strOp,evL,Nat.reduceAdd,Int.reduceBEq,Int.reduceBNe,fS49,ti3,ti2,ti4,ti9,sR0,opCells,List.all_cons,List.all_nil,Bool.and_self,gt_iff_lt,lenD,hg3_4,hg3_9,hg3_16,hg3_21,hg3_26,hg3_32,hb4,hb8,hb12,hb16,hg19_4,hg19_9,hg19_16,hg19_21,hb29,hg31_3,hg31_8,hg31_11]
                   refine hN31 _ ?_; try clear hN31 hD31 N31
                   refine WC_ret ?_; (try simp only [Exit.after,Exit.out]); refine Kend_ret (by simp only [resOf,resL,resV,mkS_get,slots_get,cellsOf,if_true,sS,↓sT,Nat.reduceLT,Nat.reduceEqDiff]; rfl) (by first | rfl | (simp only [if_true]; done) | (simp only [if_true,okV,ok1,okC,okP,List.all_cons,List.all_nil,Bool.and_true]; done)) ?_
                   first | (rw [keep_bool,rightR]; simp_all [isNil,OpS.dropsL]; done) | (rw [keep_bool,rightR]; simp_all [isNil,OpS.dropsL]; omega)
                 ·simp only [sS,↓sT,Nat.reduceLT,Nat.reduceEqDiff,↓sO,↓WOps_g,sG,opV,loudV,cellsOf,strOp,evL,Nat.reduceAdd,Int.reduceBEq,Int.reduceBNe,fS49,ti3,ti2,ti4,ti9,sR0,opCells,List.all_cons,List.all_nil,Bool.and_self,gt_iff_lt,lenD,hg3_4,hg3_9,hg3_16,hg3_21,hg3_26,hg3_32,hb4,hb8,hb12,hb16,hg19_4,hg19_9,hg19_16,hg19_21,hb29,hg31_3,hg31_8]
                  refine hN31 _ ?_; try clear hN31 hD31 N31
                  refine WC_ret ?_; (try simp only [Exit.after,Exit.out]); refine Kend_ret (by simp only [resOf,resL,resV,mkS_get,slots_get,cellsOf,if_true,sS,↓sT,Nat.reduceLT,Nat.reduceEqDiff]; rfl) (by first | rfl | (simp only [if_true]; done) | (simp only [if_true,okV,ok1,okC,okP,List.all_cons,List.all_nil,Bool.and_true]; done)) ?_
                  first | (rw [keep_bool,rightR]; simp_all [isNil,OpS.dropsL]; done) | (rw [keep_bool,rightR]; simp_all [isNil,OpS.dropsL]; omega)
                ·simp only [sS,↓sT,Nat.reduceLT,Nat.reduceEqDiff,↓sO,↓WOps_g,sG,opV,loudV,cellsOf,strOp,evL,Nat.reduceAdd,Int.reduceBEq,Int.reduceBNe,fS49,ti3,ti2,ti4,ti9,sR0,opCells,List.all_cons,List.all_nil,Bool.and_self,gt_iff_lt,lenD,hg3_4,hg3_9,hg3_16,hg3_21,hg3_26,hg3_32,hb4,hb8,hb12,hb16,hg19_4,hg19_9,hg19_16,hg19_21,hb29,hg31_3]
                 refine hN31 _ ?_; try clear hN31 hD31 N31
                 refine WC_ret ?_; (try simp only [Exit.after,Exit.out]); refine Kend_ret (by simp only [resOf,resL,resV,mkS_get,slots_get,cellsOf,if_true,sS,↓sT,Nat.reduceLT,Nat.reduceEqDiff]; rfl) (by first | rfl | (simp only [if_true]; done) | (simp only [if_true,okV,ok1,okC,okP,List.all_cons,List.all_nil,Bool.and_true]; done)) ?_
                 first | (rw [keep_bool,rightR]; simp_all [isNil,OpS.dropsL]; done) | (rw [keep_bool,rightR]; simp_all [isNil,OpS.dropsL]; omega)
             ·simp only [sS,↓sT,Nat.reduceLT,Nat.reduceEqDiff,↓sO,↓WOps_g,sG,opV,loudV,cellsOf,strOp,evL,Nat.reduceAdd,Int.reduceBEq,Int.reduceBNe,fS49,ti47,fS47,ti3,ti9,sR0,opCells,List.all_cons,List.all_nil,Bool.and_self,gt_iff_lt,lenD,hg3_4,hg3_9,hg3_16,hg3_21,hg3_26,hg3_32,hb4,hb8,hb12,hb16,hg19_4,hg19_9,hg19_16]
              refine hN19 _ ?_; try clear hN19 hD19 N19
              refine WC_condE ?_
              simp only [sS,↓sT,Nat.reduceLT,Nat.reduceEqDiff,↓stepC_bool,hg3_4,hg3_9,hg3_16,hg3_21,hg3_26,hg3_32,hb4,hb8,hb12,hb16,hg19_4,hg19_9,hg19_16,Int.reduceBEq,Int.reduceBNe,beq_self_eq_true,bne_self_eq_false]
              refine ⟨fun hb => ?_,fun hb => (by cases hb)⟩
              refine WC_seqR (fun N32 hN32 hD32 => ?_)
              simp only [sS,↓sT,Nat.reduceLT,Nat.reduceEqDiff,↓sO,↓WOps_g,sG,opV,loudV,cellsOf,strOp,evL,Nat.reduceAdd,Int.reduceBEq,Int.reduceBNe,sR0,opCells,List.all_cons,List.all_nil,Bool.and_self,gt_iff_lt,lenD,hg3_4,hg3_9,hg3_16,hg3_21,hg3_26,hg3_32,hb4,hb8,hb12,hb16,hg19_4,hg19_9,hg19_16]
              refine hN32 _ ?_; try clear hN32 hD32 N32
              refine WC_ret ?_; (try simp only [Exit.after,Exit.out]); refine Kend_ret (by simp only [resOf,resL,resV,mkS_get,slots_get,cellsOf,if_true,sS,↓sT,Nat.reduceLT,Nat.reduceEqDiff]; rfl) (by first | rfl | (simp only [if_true]; done) | (simp only [if_true,okV,ok1,okC,okP,List.all_cons,List.all_nil,Bool.and_true]; done)) ?_
              clear hN18 hD18 N18
              first | (rw [keep_bool,rightR]; simp_all [isNil,OpS.dropsL]; done) | (rw [keep_bool,rightR]; simp_all [isNil,OpS.dropsL]; omega)
            ·simp only [sS,↓sT,Nat.reduceLT,Nat.reduceEqDiff,↓sO,↓WOps_g,sG,opV,loudV,cellsOf,strOp,evL,Nat.reduceAdd,Int.reduceBEq,Int.reduceBNe,fS49,ti47,fS47,ti3,ti9,sR0,opCells,List.all_cons,List.all_nil,Bool.and_self,gt_iff_lt,lenD,hg3_4,hg3_9,hg3_16,hg3_21,hg3_26,hg3_32,hb4,hb8,hb12,hb16,hg19_4,hg19_9]
             refine stepB_T (fun hg19_21 => ?_) (fun hg19_21 => ?_)
             ·simp only [sS,↓sT,Nat.reduceLT,Nat.reduceEqDiff,↓sO,↓WOps_g,sG,opV,loudV,cellsOf,strOp,evL,Nat.reduceAdd,Int.reduceBEq,Int.reduceBNe,fS49,ti47,fS47,ti3,ti9,sR0,opCells,List.all_cons,List.all_nil,Bool.and_self,gt_iff_lt,lenD,hg3_4,hg3_9,hg3_16,hg3_21,hg3_26,hg3_32,hb4,hb8,hb12,hb16,hg19_4,hg19_9,hg19_21]
              refine hN19 _ ?_; try clear hN19 hD19 N19
              refine WC_condE ?_
              simp only [sS,↓sT,Nat.reduceLT,Nat.reduceEqDiff,↓stepC_bool,hg3_4,hg3_9,hg3_16,hg3_21,hg3_26,hg3_32,hb4,hb8,hb12,hb16,hg19_4,hg19_9,hg19_21,Int.reduceBEq,Int.reduceBNe,beq_self_eq_true,bne_self_eq_false]
              refine ⟨fun hb33 => ?_,fun hb33 => ?_⟩
              ·refine WC_seqR (fun N34 hN34 hD34 => ?_)
               simp only [sS,↓sT,Nat.reduceLT,Nat.reduceEqDiff,↓sO,↓WOps_g,sG,opV,loudV,cellsOf,strOp,evL,Nat.reduceAdd,Int.reduceBEq,Int.reduceBNe,sR0,opCells,List.all_cons,List.all_nil,Bool.and_self,gt_iff_lt,lenD,hg3_4,hg3_9,hg3_16,hg3_21,hg3_26,hg3_32,hb4,hb8,hb12,hb16,hg19_4,hg19_9,hg19_21,hb33]
               refine hN34 _ ?_; try clear hN34 hD34 N34
               refine WC_ret ?_; (try simp only [Exit.after,Exit.out]); refine Kend_ret (by simp only [resOf,resL,resV,mkS_get,slots_get,cellsOf,if_true,sS,↓sT,Nat.reduceLT,Nat.reduceEqDiff]; rfl) (by first | rfl | (simp only [if_true]; done) | (simp only [if_true,okV,ok1,okC,okP,List.all_cons,List.all_nil,Bool.and_true]; done)) ?_
               clear hN18 hD18 N18
               first | (rw [keep_bool,rightR]; simp_all [isNil,OpS.dropsL]; done) | (rw [keep_bool,rightR]; simp_all [isNil,OpS.dropsL]; omega)
              ·refine WC_skip ?_
               refine hN18 _ ?_; try clear hN18 hD18 N18
               refine WC_seqN (fun N35 hN35 hD35 => ?_)
               refine WC_seqR (fun N36 hN36 hD36 => ?_)
               simp only [sS,↓sT,Nat.reduceLT,Nat.reduceEqDiff,↓sO,↓WOps_g,sG,opV,loudV,cellsOf,strOp,evL,Nat.reduceAdd,Int.reduceBEq,Int.reduceBNe,fS49,ti3,sR0,opCells,List.all_cons,List.all_nil,Bool.and_self,gt_iff_lt,lenD,hg3_4,hg3_9,hg3_16,hg3_21,hg3_26,hg3_32,hb4,hb8,hb12,hb16,hg19_4,hg19_9,hg19_21,hb33]
               refine hN36 _ ?_; try clear hN36 hD36 N36
               refine WC_condE ?_
               simp only [sS,↓sT,Nat.reduceLT,Nat.reduceEqDiff,↓stepC_bool,hg3_4,hg3_9,hg3_16,hg3_21,hg3_26,hg3_32,hb4,hb8,hb12,hb16,hg19_4,hg19_9,hg19_21,hb33,Int.reduceBEq,Int.reduceBNe,beq_self_eq_true,bne_self_eq_false]
               refine ⟨fun hb37 => ?_,fun hb37 => ?_⟩
               ·refine WC_seqR (fun N38 hN38 hD38 => ?_)
                simp only [sS,↓sT,Nat.reduceLT,Nat.reduceEqDiff,↓sO,↓WOps_g,sG,opV,loudV,cellsOf,strOp,evL,Nat.reduceAdd,Int.reduceBEq,Int.reduceBNe,fS49,ti4,ti9,ti38,ti2,sR0,opCells,List.all_cons,List.all_nil,Bool.and_self,gt_iff_lt,lenD,hg3_4,hg3_9,hg3_16,hg3_21,hg3_26,hg3_32,hb4,hb8,hb12,hb16,hg19_4,hg19_9,hg19_21,hb33,hb37]
                refine stepB_T (fun hg38_3 => ?_) (fun hg38_3 => ?_)
                ·simp only [sS,↓sT,Nat.reduceLT,Nat.reduceEqDiff,↓sO,↓WOps_g,sG,opV,loudV,cellsOf,strOp,evL,Nat.reduceAdd,Int.reduceBEq,Int.reduceBNe,fS49,ti4,ti9,ti38,ti2,sR0,opCells,List.all_cons,List.all_nil,Bool.and_self,gt_iff_lt,lenD,hg3_4,hg3_9,hg3_16,hg3_21,hg3_26,hg3_32,hb4,hb8,hb12,hb16,hg19_4,hg19_9,hg19_21,hb33,hb37,hg38_3]
                 refine stepB_T (fun hg38_8 => ?_) (fun hg38_8 => ?_)
                 ·simp only [sS,↓sT,Nat.reduceLT,Nat.reduceEqDiff,↓sO,↓WOps_g,sG,opV,loudV,cellsOf,strOp,evL,Nat.reduceAdd,Int.reduceBEq,Int.reduceBNe,fS49,ti4,ti9,ti38,ti2,sR0,opCells,List.all_cons,List.all_nil,Bool.and_self,gt_iff_lt,lenD,hg3_4,hg3_9,hg3_16,hg3_21,hg3_26,hg3_32,hb4,hb8,hb12,hb16,hg19_4,hg19_9,hg19_21,hb33,hb37,hg38_3,hg38_8]
                  refine stepB_T (fun hg38_14 => ?_) (fun hg38_14 => ?_)
                  ·simp only [sS,↓sT,Nat.reduceLT,Nat.reduceEqDiff,↓sO,↓WOps_g,sG,opV,loudV,cellsOf,strOp,evL,Nat.reduceAdd,Int.reduceBEq,Int.reduceBNe,fS49,ti4,ti9,ti38,ti2,sR0,opCells,List.all_cons,List.all_nil,Bool.and_self,gt_iff_lt,lenD,hg3_4,hg3_9,hg3_16,hg3_21,hg3_26,hg3_32,hb4,hb8,hb12,hb16,hg19_4,hg19_9,hg19_21,hb33,hb37,hg38_3,hg38_8,hg38_14]
                   refine stepB_T (fun hg38_19 => ?_) (fun hg38_19 => ?_)
                   ·simp only [sS,↓sT,Nat.reduceLT,Nat.reduceEqDiff,↓sO,↓WOps_g,sG,opV,loudV,cellsOf,strOp,evL,Nat.reduceAdd,Int.reduceBEq,Int.reduceBNe,fS49,ti4,ti9,ti38,ti2,sR0,opCells,List.all_cons,List.all_nil,Bool.and_self,gt_iff_lt,lenD,hg3_4,hg3_9,hg3_16,hg3_21,hg3_26,hg3_32,hb4,hb8,hb12,hb16,hg19_4,hg19_9,hg19_21,hb33,hb37,hg38_3,hg38_8,hg38_14,hg38_19]
                    refine hN38 _ ?_; try clear hN38 hD38 N38
                    refine WC_ret ?_; (try simp only [Exit.after,Exit.out]); refine Kend_ret (by simp only [resOf,resL,resV,mkS_get,slots_get,cellsOf,if_true,sS,↓sT,Nat.reduceLT,Nat.reduceEqDiff]; rfl) (by first | rfl | (simp only [if_true]; done) | (simp only [if_true,okV,ok1,okC,okP,List.all_cons,List.all_nil,Bool.and_true]; done)) ?_
                    clear hN35 hD35 N35
                    first | (rw [keep_bool,rightR]; simp_all [isNil,OpS.dropsL]; done) | (rw [keep_bool,rightR]; simp_all [isNil,OpS.dropsL]; omega)
                   ·simp only [sS,↓sT,Nat.reduceLT,Nat.reduceEqDiff,↓sO,↓WOps_g,sG,opV,loudV,cellsOf,strOp,evL,Nat.reduceAdd,Int.reduceBEq,Int.reduceBNe,fS49,ti4,ti9,ti38,ti2,sR0,opCells,List.all_cons,List.all_nil,Bool.and_self,gt_iff_lt,lenD,hg3_4,hg3_9,hg3_16,hg3_21,hg3_26,hg3_32,hb4,hb8,hb12,hb16,hg19_4,hg19_9,hg19_21,hb33,hb37,hg38_3,hg38_8,hg38_14,hg38_19]
                    refine hN38 _ ?_; try clear hN38 hD38 N38
                    refine WC_ret ?_; (try simp only [Exit.after,Exit.out]); refine Kend_ret (by simp only [resOf,resL,resV,mkS_get,slots_get,cellsOf,if_true,sS,↓sT,Nat.reduceLT,Nat.reduceEqDiff]; rfl) (by first | rfl | (simp only [if_true]; done) | (simp only [if_true,okV,ok1,okC,okP,List.all_cons,List.all_nil,Bool.and_true]; done)) ?_
                    clear hN35 hD35 N35
                    first | (rw [keep_bool,rightR]; simp_all [isNil,OpS.dropsL]; done) | (rw [keep_bool,rightR]; simp_all [isNil,OpS.dropsL]; omega)
                  ·simp only [sS,↓sT,Nat.reduceLT,Nat.reduceEqDiff,↓sO,↓WOps_g,sG,opV,loudV,cellsOf,strOp,evL,Nat.reduceAdd,Int.reduceBEq,Int.reduceBNe,fS49,ti4,ti9,ti38,ti2,sR0,opCells,List.all_cons,List.all_nil,Bool.and_self,gt_iff_lt,lenD,hg3_4,hg3_9,hg3_16,hg3_21,hg3_26,hg3_32,hb4,hb8,hb12,hb16,hg19_4,hg19_9,hg19_21,hb33,hb37,hg38_3,hg38_8,hg38_14]
                   refine hN38 _ ?_; try clear hN38 hD38 N38
                   refine WC_ret ?_; (try simp only [Exit.after,Exit.out]); refine Kend_ret (by simp only [resOf,resL,resV,mkS_get,slots_get,cellsOf,if_true,sS,↓sT,Nat.reduceLT,Nat.reduceEqDiff]; rfl) (by first | rfl | (simp only [if_true]; done) | (simp only [if_true,okV,ok1,okC,okP,List.all_cons,List.all_nil,Bool.and_true]; done)) ?_
                   clear hN35 hD35 N35
                   first | (rw [keep_bool,rightR]; simp_all [isNil,OpS.dropsL]; done) | (rw [keep_bool,rightR]; simp_all [isNil,OpS.dropsL]; omega)
                 ·simp only [sS,↓sT,Nat.reduceLT,Nat.reduceEqDiff,↓sO,↓WOps_g,sG,opV,loudV,cellsOf,strOp,evL,Nat.reduceAdd,Int.reduceBEq,Int.reduceBNe,fS49,ti4,ti9,ti38,ti2,sR0,opCells,List.all_cons,List.all_nil,Bool.and_self,gt_iff_lt,lenD,hg3_4,hg3_9,hg3_16,hg3_21,hg3_26,hg3_32,hb4,hb8,hb12,hb16,hg19_4,hg19_9,hg19_21,hb33,hb37,hg38_3,hg38_8]
                  refine hN38 _ ?_; try clear hN38 hD38 N38
                  refine WC_ret ?_; (try simp only [Exit.after,Exit.out]); refine Kend_ret (by simp only [resOf,resL,resV,mkS_get,slots_get,cellsOf,if_true,sS,↓sT,Nat.reduceLT,Nat.reduceEqDiff]; rfl) (by first | rfl | (simp only [if_true]; done) | (simp only [if_true,okV,ok1,okC,okP,List.all_cons,List.all_nil,Bool.and_true]; done)) ?_
                  clear hN35 hD35 N35
                  first | (rw [keep_bool,rightR]; simp_all [isNil,OpS.dropsL]; done) | (rw [keep_bool,rightR]; simp_all [isNil,OpS.dropsL]; omega)
                ·simp only [sS,↓sT,Nat.reduceLT,Nat.reduceEqDiff,↓sO,↓WOps_g,sG,opV,loudV,cellsOf,strOp,evL,Nat.reduceAdd,Int.reduceBEq,Int.reduceBNe,fS49,ti4,ti9,ti38,ti2,sR0,opCells,List.all_cons,List.all_nil,Bool.and_self,gt_iff_lt,lenD,hg3_4,hg3_9,hg3_16,hg3_21,hg3_26,hg3_32,hb4,hb8,hb12,hb16,hg19_4,hg19_9,hg19_21,hb33,hb37,hg38_3]
                 refine hN38 _ ?_; try clear hN38 hD38 N38
                 refine WC_ret ?_; (try simp only [Exit.after,Exit.out]); refine Kend_ret (by simp only [resOf,resL,resV,mkS_get,slots_get,cellsOf,if_true,sS,↓sT,Nat.reduceLT,Nat.reduceEqDiff]; rfl) (by first | rfl | (simp only [if_true]; done) | (simp only [if_true,okV,ok1,okC,okP,List.all_cons,List.all_nil,Bool.and_true]; done)) ?_
                 clear hN35 hD35 N35
                 first | (rw [keep_bool,rightR]; simp_all [isNil,OpS.dropsL]; done) | (rw [keep_bool,rightR]; simp_all [isNil,OpS.dropsL]; omega)
               ·refine WC_skip ?_
                refine hN35 _ ?_; try clear hN35 hD35 N35
                refine WC_seqR (fun N39 hN39 hD39 => ?_)
                simp only [sS,↓sT,Nat.reduceLT,Nat.reduceEqDiff,↓sO,↓WOps_g,sG,opV,loudV,cellsOf,strOp,evL,Nat.reduceAdd,Int.reduceBEq,Int.reduceBNe,fS49,ti3,ti2,ti4,ti9,sR0,opCells,List.all_cons,List.all_nil,Bool.and_self,gt_iff_lt,lenD,hg3_4,hg3_9,hg3_16,hg3_21,hg3_26,hg3_32,hb4,hb8,hb12,hb16,hg19_4,hg19_9,hg19_21,hb33,hb37]
                refine stepB_T (fun hg39_3 => ?_) (fun hg39_3 => ?_)
                ·simp only [sS,↓sT,Nat.reduceLT,Nat.reduceEqDiff,↓sO,↓WOps_g,sG,opV,loudV,cellsOf,strOp,evL,Nat.reduceAdd,Int.reduceBEq,Int.reduceBNe,fS49,ti3,ti2,ti4,ti9,sR0,opCells,List.all_cons,List.all_nil,Bool.and_self,gt_iff_lt,lenD,hg3_4,hg3_9,hg3_16,hg3_21,hg3_26,hg3_32,hb4,hb8,hb12,hb16,hg19_4,hg19_9,hg19_21,hb33,hb37,hg39_3]
                 refine stepB_T (fun hg39_8 => ?_) (fun hg39_8 => ?_)
                 ·simp only [sS,↓sT,Nat.reduceLT,Nat.reduceEqDiff,↓sO,↓WOps_g,sG,opV,loudV,cellsOf,strOp,evL,Nat.reduceAdd,Int.reduceBEq,Int.reduceBNe,fS49,ti3,ti2,ti4,ti9,sR0,opCells,List.all_cons,List.all_nil,Bool.and_self,gt_iff_lt,lenD,hg3_4,hg3_9,hg3_16,hg3_21,hg3_26,hg3_32,hb4,hb8,hb12,hb16,hg19_4,hg19_9,hg19_21,hb33,hb37,hg39_3,hg39_8]
                  refine stepB_T (fun hg39_11 => ?_) (fun hg39_11 => ?_)
                  ·simp only [sS,↓sT,Nat.reduceLT,Nat.reduceEqDiff,↓sO,↓WOps_g,sG,opV,loudV,cellsOf,strOp,evL,Nat.reduceAdd,Int.reduceBEq,Int.reduceBNe,fS49,ti3,ti2,ti4,ti9,sR0,opCells,List.all_cons,List.all_nil,Bool.and_self,gt_iff_lt,lenD,hg3_4,hg3_9,hg3_16,hg3_21,hg3_26,hg3_32,hb4,hb8,hb12,hb16,hg19_4,hg19_9,hg19_21,hb33,hb37,hg39_3,hg39_8,hg39_11]
                   refine stepB_F (fun hg39_17 => ?_) (fun hg39_17 => ?_)
                   ·simp only [sS,↓sT,Nat.reduceLT,Nat.reduceEqDiff,↓sO,↓WOps_g,sG,opV,loudV,cellsOf,strOp,evL,Nat.reduceAdd,Int.reduceBEq,Int.reduceBNe,fS49,ti3,ti2,ti4,ti9,sR0,opCells,List.all_cons,List.all_nil,Bool.and_self,gt_iff_lt,lenD,hg3_4,hg3_9,hg3_16,hg3_21,hg3_26,hg3_32,hb4,hb8,hb12,hb16,hg19_4,hg19_9,hg19_21,hb33,hb37,hg39_3,hg39_8,hg39_11,hg39_17]
                    refine hN39 _ ?_; try clear hN39 hD39 N39
                    refine WC_ret ?_; (try simp only [Exit.after,Exit.out]); refine Kend_ret (by simp only [resOf,resL,resV,mkS_get,slots_get,cellsOf,if_true,sS,↓sT,Nat.reduceLT,Nat.reduceEqDiff]; rfl) (by first | rfl | (simp only [if_true]; done) | (simp only [if_true,okV,ok1,okC,okP,List.all_cons,List.all_nil,Bool.and_true]; done)) ?_
                    first | (rw [keep_bool,rightR]; simp_all [isNil,OpS.dropsL]; done) | (rw [keep_bool,rightR]; simp_all [isNil,OpS.dropsL]; omega)
                   ·simp only [sS,↓sT,Nat.reduceLT,Nat.reduceEqDiff,↓sO,↓WOps_g,sG,opV,loudV,cellsOf,strOp,evL,Nat.reduceAdd,Int.reduceBEq,Int.reduceBNe,fS49,ti3,ti2,ti4,ti9,sR0,opCells,List.all_cons,List.all_nil,Bool.and_self,gt_iff_lt,lenD,hg3_4,hg3_9,hg3_16,hg3_21,hg3_26,hg3_32,hb4,hb8,hb12,hb16,hg19_4,hg19_9,hg19_21,hb33,hb37,hg39_3,hg39_8,hg39_11,hg39_17]
                    refine hN39 _ ?_; try clear hN39 hD39 N39
                    refine WC_ret ?_; (try simp only [Exit.after,Exit.out]); refine Kend_ret (by simp only [resOf,resL,resV,mkS_get,slots_get,cellsOf,if_true,sS,↓sT,Nat.reduceLT,Nat.reduceEqDiff]; rfl) (by first | rfl | (simp only [if_true]; done) | (simp only [if_true,okV,ok1,okC,okP,List.all_cons,List.all_nil,Bool.and_true]; done)) ?_
                    first | (rw [keep_bool,rightR]; simp_all [isNil,OpS.dropsL]; done) | (rw [keep_bool,rightR]; simp_all [isNil,OpS.dropsL]; omega)
                  ·simp only [sS,↓sT,Nat.reduceLT,Nat.reduceEqDiff,↓sO,↓WOps_g,sG,opV,loudV,cellsOf,strOp,evL,Nat.reduceAdd,Int.reduceBEq,Int.reduceBNe,fS49,ti3,ti2,ti4,ti9,sR0,opCells,List.all_cons,List.all_nil,Bool.and_self,gt_iff_lt,lenD,hg3_4,hg3_9,hg3_16,hg3_21,hg3_26,hg3_32,hb4,hb8,hb12,hb16,hg19_4,hg19_9,hg19_21,hb33,hb37,hg39_3,hg39_8,hg39_11]
                   refine hN39 _ ?_; try clear hN39 hD39 N39
                   refine WC_ret ?_; (try simp only [Exit.after,Exit.out]); refine Kend_ret (by simp only [resOf,resL,resV,mkS_get,slots_get,cellsOf,if_true,sS,↓sT,Nat.reduceLT,Nat.reduceEqDiff]; rfl) (by first | rfl | (simp only [if_true]; done) | (simp only [if_true,okV,ok1,okC,okP,List.all_cons,List.all_nil,Bool.and_true]; done)) ?_
                   first | (rw [keep_bool,rightR]; simp_all [isNil,OpS.dropsL]; done) | (rw [keep_bool,rightR]; simp_all [isNil,OpS.dropsL]; omega)
                 ·simp only [sS,↓sT,Nat.reduceLT,Nat.reduceEqDiff,↓sO,↓WOps_g,sG,opV,loudV,cellsOf,strOp,evL,Nat.reduceAdd,Int.reduceBEq,Int.reduceBNe,fS49,ti3,ti2,ti4,ti9,sR0,opCells,List.all_cons,List.all_nil,Bool.and_self,gt_iff_lt,lenD,hg3_4,hg3_9,hg3_16,hg3_21,hg3_26,hg3_32,hb4,hb8,hb12,hb16,hg19_4,hg19_9,hg19_21,hb33,hb37,hg39_3,hg39_8]
                  refine hN39 _ ?_; try clear hN39 hD39 N39
                  refine WC_ret ?_; (try simp only [Exit.after,Exit.out]); refine Kend_ret (by simp only [resOf,resL,resV,mkS_get,slots_get,cellsOf,if_true,sS,↓sT,Nat.reduceLT,Nat.reduceEqDiff]; rfl) (by first | rfl | (simp only [if_true]; done) | (simp only [if_true,okV,ok1,okC,okP,List.all_cons,List.all_nil,Bool.and_true]; done)) ?_
                  first | (rw [keep_bool,rightR]; simp_all [isNil,OpS.dropsL]; done) | (rw [keep_bool,rightR]; simp_all [isNil,OpS.dropsL]; omega)
                ·simp only [sS,↓sT,Nat.reduceLT,Nat.reduceEqDiff,↓sO,↓WOps_g,sG,opV,loudV,cellsOf,strOp,evL,Nat.reduceAdd,Int.reduceBEq,Int.reduceBNe,fS49,ti3,ti2,ti4,ti9,sR0,opCells,List.all_cons,List.all_nil,Bool.and_self,gt_iff_lt,lenD,hg3_4,hg3_9,hg3_16,hg3_21,hg3_26,hg3_32,hb4,hb8,hb12,hb16,hg19_4,hg19_9,hg19_21,hb33,hb37,hg39_3]
                 refine hN39 _ ?_; try clear hN39 hD39 N39
                 refine WC_ret ?_; (try simp only [Exit.after,Exit.out]); refine Kend_ret (by simp only [resOf,resL,resV,mkS_get,slots_get,cellsOf,if_true,sS,↓sT,Nat.reduceLT,Nat.reduceEqDiff]; rfl) (by first | rfl | (simp only [if_true]; done) | (simp only [if_true,okV,ok1,okC,okP,List.all_cons,List.all_nil,Bool.and_true]; done)) ?_
                 first | (rw [keep_bool,rightR]; simp_all [isNil,OpS.dropsL]; done) | (rw [keep_bool,rightR]; simp_all [isNil,OpS.dropsL]; omega)
             ·simp only [sS,↓sT,Nat.reduceLT,Nat.reduceEqDiff,↓sO,↓WOps_g,sG,opV,loudV,cellsOf,strOp,evL,Nat.reduceAdd,Int.reduceBEq,Int.reduceBNe,fS49,ti47,fS47,ti3,ti9,sR0,opCells,List.all_cons,List.all_nil,Bool.and_self,gt_iff_lt,lenD,hg3_4,hg3_9,hg3_16,hg3_21,hg3_26,hg3_32,hb4,hb8,hb12,hb16,hg19_4,hg19_9,hg19_21]
              refine hN19 _ ?_; try clear hN19 hD19 N19
              refine WC_condE ?_
              simp only [sS,↓sT,Nat.reduceLT,Nat.reduceEqDiff,↓stepC_bool,hg3_4,hg3_9,hg3_16,hg3_21,hg3_26,hg3_32,hb4,hb8,hb12,hb16,hg19_4,hg19_9,hg19_21,Int.reduceBEq,Int.reduceBNe,beq_self_eq_true,bne_self_eq_false]
              refine ⟨fun hb => (by cases hb),fun hb => ?_⟩
              refine WC_skip ?_
              refine hN18 _ ?_; try clear hN18 hD18 N18
              refine WC_seqN (fun N40 hN40 hD40 => ?_)
              refine WC_seqR (fun N41 hN41 hD41 => ?_)
              simp only [sS,↓sT,Nat.reduceLT,Nat.reduceEqDiff,↓sO,↓WOps_g,sG,opV,loudV,cellsOf,strOp,evL,Nat.reduceAdd,Int.reduceBEq,Int.reduceBNe,fS49,ti3,sR0,opCells,List.all_cons,List.all_nil,Bool.and_self,gt_iff_lt,lenD,hg3_4,hg3_9,hg3_16,hg3_21,hg3_26,hg3_32,hb4,hb8,hb12,hb16,hg19_4,hg19_9,hg19_21]
              refine hN41 _ ?_; try clear hN41 hD41 N41
              refine WC_condE ?_
              simp only [sS,↓sT,Nat.reduceLT,Nat.reduceEqDiff,↓stepC_bool,hg3_4,hg3_9,hg3_16,hg3_21,hg3_26,hg3_32,hb4,hb8,hb12,hb16,hg19_4,hg19_9,hg19_21,Int.reduceBEq,Int.reduceBNe,beq_self_eq_true,bne_self_eq_false]
              refine ⟨fun hb42 => ?_,fun hb42 => ?_⟩
              ·refine WC_seqR (fun N43 hN43 hD43 => ?_)
               simp only [sS,↓sT,Nat.reduceLT,Nat.reduceEqDiff,↓sO,↓WOps_g,sG,opV,loudV,cellsOf,strOp,evL,Nat.reduceAdd,Int.reduceBEq,Int.reduceBNe,fS49,ti4,ti9,ti38,ti2,sR0,opCells,List.all_cons,List.all_nil,Bool.and_self,gt_iff_lt,lenD,hg3_4,hg3_9,hg3_16,hg3_21,hg3_26,hg3_32,hb4,hb8,hb12,hb16,hg19_4,hg19_9,hg19_21,hb42]
               refine stepB_T (fun hg43_3 => ?_) (fun hg43_3 => ?_)
               ·simp only [sS,↓sT,Nat.reduceLT,Nat.reduceEqDiff,↓sO,↓WOps_g,sG,opV,loudV,cellsOf,strOp,evL,Nat.reduceAdd,Int.reduceBEq,Int.reduceBNe,fS49,ti4,ti9,ti38,ti2,sR0,opCells,List.all_cons,List.all_nil,Bool.and_self,gt_iff_lt,lenD,hg3_4,hg3_9,hg3_16,hg3_21,hg3_26,hg3_32,hb4,hb8,hb12,hb16,hg19_4,hg19_9,hg19_21,hb42,hg43_3]
                refine stepB_T (fun hg43_8 => ?_) (fun hg43_8 => ?_)
                ·simp only [sS,↓sT,Nat.reduceLT,Nat.reduceEqDiff,↓sO,↓WOps_g,sG,opV,loudV,cellsOf,strOp,evL,Nat.reduceAdd,Int.reduceBEq,Int.reduceBNe,fS49,ti4,ti9,ti38,ti2,sR0,opCells,List.all_cons,List.all_nil,Bool.and_self,gt_iff_lt,lenD,hg3_4,hg3_9,hg3_16,hg3_21,hg3_26,hg3_32,hb4,hb8,hb12,hb16,hg19_4,hg19_9,hg19_21,hb42,hg43_3,hg43_8]
                 refine stepB_T (fun hg43_14 => ?_) (fun hg43_14 => ?_)
                 ·simp only [sS,↓sT,Nat.reduceLT,Nat.reduceEqDiff,↓sO,↓WOps_g,sG,opV,loudV,cellsOf,strOp,evL,Nat.reduceAdd,Int.reduceBEq,Int.reduceBNe,fS49,ti4,ti9,ti38,ti2,sR0,opCells,List.all_cons,List.all_nil,Bool.and_self,gt_iff_lt,lenD,hg3_4,hg3_9,hg3_16,hg3_21,hg3_26,hg3_32,hb4,hb8,hb12,hb16,hg19_4,hg19_9,hg19_21,hb42,hg43_3,hg43_8,hg43_14]
                  refine stepB_T (fun hg43_19 => ?_) (fun hg43_19 => ?_)
                  ·simp only [sS,↓sT,Nat.reduceLT,Nat.reduceEqDiff,↓sO,↓WOps_g,sG,opV,loudV,cellsOf,strOp,evL,Nat.reduceAdd,Int.reduceBEq,Int.reduceBNe,fS49,ti4,ti9,ti38,ti2,sR0,opCells,List.all_cons,List.all_nil,Bool.and_self,gt_iff_lt,lenD,hg3_4,hg3_9,hg3_16,hg3_21,hg3_26,hg3_32,hb4,hb8,hb12,hb16,hg19_4,hg19_9,hg19_21,hb42,hg43_3,hg43_8,hg43_14,hg43_19]
                   refine hN43 _ ?_; try clear hN43 hD43 N43
                   refine WC_ret ?_; (try simp only [Exit.after,Exit.out]); refine Kend_ret (by simp only [resOf,resL,resV,mkS_get,slots_get,cellsOf,if_true,sS,↓sT,Nat.reduceLT,Nat.reduceEqDiff]; rfl) (by first | rfl | (simp only [if_true]; done) | (simp only [if_true,okV,ok1,okC,okP,List.all_cons,List.all_nil,Bool.and_true]; done)) ?_
                   clear hN40 hD40 N40
                   first | (rw [keep_bool,rightR]; simp_all [isNil,OpS.dropsL]; done) | (rw [keep_bool,rightR]; simp_all [isNil,OpS.dropsL]; omega)
                  ·simp only [sS,↓sT,Nat.reduceLT,Nat.reduceEqDiff,↓sO,↓WOps_g,sG,opV,loudV,cellsOf,strOp,evL,Nat.reduceAdd,Int.reduceBEq,Int.reduceBNe,fS49,ti4,ti9,ti38,ti2,sR0,opCells,List.all_cons,List.all_nil,Bool.and_self,gt_iff_lt,lenD,hg3_4,hg3_9,hg3_16,hg3_21,hg3_26,hg3_32,hb4,hb8,hb12,hb16,hg19_4,hg19_9,hg19_21,hb42,hg43_3,hg43_8,hg43_14,hg43_19]
                   refine hN43 _ ?_; try clear hN43 hD43 N43
                   refine WC_ret ?_; (try simp only [Exit.after,Exit.out]); refine Kend_ret (by simp only [resOf,resL,resV,mkS_get,slots_get,cellsOf,if_true,sS,↓sT,Nat.reduceLT,Nat.reduceEqDiff]; rfl) (by first | rfl | (simp only [if_true]; done) | (simp only [if_true,okV,ok1,okC,okP,List.all_cons,List.all_nil,Bool.and_true]; done)) ?_
                   clear hN40 hD40 N40
                   first | (rw [keep_bool,rightR]; simp_all [isNil,OpS.dropsL]; done) | (rw [keep_bool,rightR]; simp_all [isNil,OpS.dropsL]; omega)
                 ·simp only [sS,↓sT,Nat.reduceLT,Nat.reduceEqDiff,↓sO,↓WOps_g,sG,opV,loudV,cellsOf,strOp,evL,Nat.reduceAdd,Int.reduceBEq,Int.reduceBNe,fS49,ti4,ti9,ti38,ti2,sR0,opCells,List.all_cons,List.all_nil,Bool.and_self,gt_iff_lt,lenD,hg3_4,hg3_9,hg3_16,hg3_21,hg3_26,hg3_32,hb4,hb8,hb12,hb16,hg19_4,hg19_9,hg19_21,hb42,hg43_3,hg43_8,hg43_14]
                  refine hN43 _ ?_; try clear hN43 hD43 N43
                  refine WC_ret ?_; (try simp only [Exit.after,Exit.out]); refine Kend_ret (by simp only [resOf,resL,resV,mkS_get,slots_get,cellsOf,if_true,sS,↓sT,Nat.reduceLT,Nat.reduceEqDiff]; rfl) (by first | rfl | (simp only [if_true]; done) | (simp only [if_true,okV,ok1,okC,okP,List.all_cons,List.all_nil,Bool.and_true]; done)) ?_
                  clear hN40 hD40 N40
                  first | (rw [keep_bool,rightR]; simp_all [isNil,OpS.dropsL]; done) | (rw [keep_bool,rightR]; simp_all [isNil,OpS.dropsL]; omega)
                ·simp only [sS,↓sT,Nat.reduceLT,Nat.reduceEqDiff,↓sO,↓WOps_g,sG,opV,loudV,cellsOf,strOp,evL,Nat.reduceAdd,Int.reduceBEq,Int.reduceBNe,fS49,ti4,ti9,ti38,ti2,sR0,opCells,List.all_cons,List.all_nil,Bool.and_self,gt_iff_lt,lenD,hg3_4,hg3_9,hg3_16,hg3_21,hg3_26,hg3_32,hb4,hb8,hb12,hb16,hg19_4,hg19_9,hg19_21,hb42,hg43_3,hg43_8]
                 refine hN43 _ ?_; try clear hN43 hD43 N43
                 refine WC_ret ?_; (try simp only [Exit.after,Exit.out]); refine Kend_ret (by simp only [resOf,resL,resV,mkS_get,slots_get,cellsOf,if_true,sS,↓sT,Nat.reduceLT,Nat.reduceEqDiff]; rfl) (by first | rfl | (simp only [if_true]; done) | (simp only [if_true,okV,ok1,okC,okP,List.all_cons,List.all_nil,Bool.and_true]; done)) ?_
                 clear hN40 hD40 N40
                 first | (rw [keep_bool,rightR]; simp_all [isNil,OpS.dropsL]; done) | (rw [keep_bool,rightR]; simp_all [isNil,OpS.dropsL]; omega)
               ·simp only [sS,↓sT,Nat.reduceLT,Nat.reduceEqDiff,↓sO,↓WOps_g,sG,opV,loudV,cellsOf,strOp,evL,Nat.reduceAdd,Int.reduceBEq,Int.reduceBNe,fS49,ti4,ti9,ti38,ti2,sR0,opCells,List.all_cons,List.all_nil,Bool.and_self,gt_iff_lt,lenD,hg3_4,hg3_9,hg3_16,hg3_21,hg3_26,hg3_32,hb4,hb8,hb12,hb16,hg19_4,hg19_9,hg19_21,hb42,hg43_3]
                refine hN43 _ ?_; try clear hN43 hD43 N43
                refine WC_ret ?_; (try simp only [Exit.after,Exit.out]); refine Kend_ret (by simp only [resOf,resL,resV,mkS_get,slots_get,cellsOf,if_true,sS,↓sT,Nat.reduceLT,Nat.reduceEqDiff]; rfl) (by first | rfl | (simp only [if_true]; done) | (simp only [if_true,okV,ok1,okC,okP,List.all_cons,List.all_nil,Bool.and_true]; done)) ?_
                clear hN40 hD40 N40
                first | (rw [keep_bool,rightR]; simp_all [isNil,OpS.dropsL]; done) | (rw [keep_bool,rightR]; simp_all [isNil,OpS.dropsL]; omega)
              ·refine WC_skip ?_
               refine hN40 _ ?_; try clear hN40 hD40 N40
               refine WC_seqR (fun N44 hN44 hD44 => ?_)
               simp only [sS,↓sT,Nat.reduceLT,Nat.reduceEqDiff,↓sO,↓WOps_g,sG,opV,loudV,cellsOf,strOp,evL,Nat.reduceAdd,Int.reduceBEq,Int.reduceBNe,fS49,ti3,ti2,ti4,ti9,sR0,opCells,List.all_cons,List.all_nil,Bool.and_self,gt_iff_lt,lenD,hg3_4,hg3_9,hg3_16,hg3_21,hg3_26,hg3_32,hb4,hb8,hb12,hb16,hg19_4,hg19_9,hg19_21,hb42]
               refine stepB_T (fun hg44_3 => ?_) (fun hg44_3 => ?_)
               ·simp only [sS,↓sT,Nat.reduceLT,Nat.reduceEqDiff,↓sO,↓WOps_g,sG,opV,loudV,cellsOf,strOp,evL,Nat.reduceAdd,Int.reduceBEq,Int.reduceBNe,fS49,ti3,ti2,ti4,ti9,sR0,opCells,List.all_cons,List.all_nil,Bool.and_self,gt_iff_lt,lenD,hg3_4,hg3_9,hg3_16,hg3_21,hg3_26,hg3_32,hb4,hb8,hb12,hb16,hg19_4,hg19_9,hg19_21,hb42,hg44_3]
                refine stepB_T (fun hg44_8 => ?_) (fun hg44_8 => ?_)
                ·simp only [sS,↓sT,Nat.reduceLT,Nat.reduceEqDiff,↓sO,↓WOps_g,sG,opV,loudV,cellsOf,strOp,evL,Nat.reduceAdd,Int.reduceBEq,Int.reduceBNe,fS49,ti3,ti2,ti4,ti9,sR0,opCells,List.all_cons,List.all_nil,Bool.and_self,gt_iff_lt,lenD,hg3_4,hg3_9,hg3_16,hg3_21,hg3_26,hg3_32,hb4,hb8,hb12,hb16,hg19_4,hg19_9,hg19_21,hb42,hg44_3,hg44_8]
                 refine stepB_T (fun hg44_11 => ?_) (fun hg44_11 => ?_)
                 ·simp only [sS,↓sT,Nat.reduceLT,Nat.reduceEqDiff,↓sO,↓WOps_g,sG,opV,loudV,cellsOf,strOp,evL,Nat.reduceAdd,Int.reduceBEq,Int.reduceBNe,fS49,ti3,ti2,ti4,ti9,sR0,opCells,List.all_cons,List.all_nil,Bool.and_self,gt_iff_lt,lenD,hg3_4,hg3_9,hg3_16,hg3_21,hg3_26,hg3_32,hb4,hb8,hb12,hb16,hg19_4,hg19_9,hg19_21,hb42,hg44_3,hg44_8,hg44_11]
                  refine stepB_F (fun hg44_17 => ?_) (fun hg44_17 => ?_)
                  ·simp only [sS,↓sT,Nat.reduceLT,Nat.reduceEqDiff,↓sO,↓WOps_g,sG,opV,loudV,cellsOf,strOp,evL,Nat.reduceAdd,Int.reduceBEq,Int.reduceBNe,fS49,ti3,ti2,ti4,ti9,sR0,opCells,List.all_cons,List.all_nil,Bool.and_self,gt_iff_lt,lenD,hg3_4,hg3_9,hg3_16,hg3_21,hg3_26,hg3_32,hb4,hb8,hb12,hb16,hg19_4,hg19_9,hg19_21,hb42,hg44_3,hg44_8,hg44_11,hg44_17]
                   refine hN44 _ ?_; try clear hN44 hD44 N44
                   refine WC_ret ?_; (try simp only [Exit.after,Exit.out]); refine Kend_ret (by simp only [resOf,resL,resV,mkS_get,slots_get,cellsOf,if_true,sS,↓sT,Nat.reduceLT,Nat.reduceEqDiff]; rfl) (by first | rfl | (simp only [if_true]; done) | (simp only [if_true,okV,ok1,okC,okP,List.all_cons,List.all_nil,Bool.and_true]; done)) ?_
                   first | (rw [keep_bool,rightR]; simp_all [isNil,OpS.dropsL]; done) | (rw [keep_bool,rightR]; simp_all [isNil,OpS.dropsL]; omega)
                  ·simp only [sS,↓sT,Nat.reduceLT,Nat.reduceEqDiff,↓sO,↓WOps_g,sG,opV,loudV,cellsOf,strOp,evL,Nat.reduceAdd,Int.reduceBEq,Int.reduceBNe,fS49,ti3,ti2,ti4,ti9,sR0,opCells,List.all_cons,List.all_nil,Bool.and_self,gt_iff_lt,lenD,hg3_4,hg3_9,hg3_16,hg3_21,hg3_26,hg3_32,hb4,hb8,hb12,hb16,hg19_4,hg19_9,hg19_21,hb42,hg44_3,hg44_8,hg44_11,hg44_17]
                   refine hN44 _ ?_; try clear hN44 hD44 N44
                   refine WC_ret ?_; (try simp only [Exit.after,Exit.out]); refine Kend_ret (by simp only [resOf,resL,resV,mkS_get,slots_get,cellsOf,if_true,sS,↓sT,Nat.reduceLT,Nat.reduceEqDiff]; rfl) (by first | rfl | (simp only [if_true]; done) | (simp only [if_true,okV,ok1,okC,okP,List.all_cons,List.all_nil,Bool.and_true]; done)) ?_
                   first | (rw [keep_bool,rightR]; simp_all [isNil,OpS.dropsL]; done) | (rw [keep_bool,rightR]; simp_all [isNil,OpS.dropsL]; omega)
                 ·simp only [sS,↓sT,Nat.reduceLT,Nat.reduceEqDiff,↓sO,↓WOps_g,sG,opV,loudV,cellsOf,strOp,evL,Nat.reduceAdd,Int.reduceBEq,Int.reduceBNe,fS49,ti3,ti2,ti4,ti9,sR0,opCells,List.all_cons,List.all_nil,Bool.and_self,gt_iff_lt,lenD,hg3_4,hg3_9,hg3_16,hg3_21,hg3_26,hg3_32,hb4,hb8,hb12,hb16,hg19_4,hg19_9,hg19_21,hb42,hg44_3,hg44_8,hg44_11]
                  refine hN44 _ ?_; try clear hN44 hD44 N44
                  refine WC_ret ?_; (try simp only [Exit.after,Exit.out]); refine Kend_ret (by simp only [resOf,resL,resV,mkS_get,slots_get,cellsOf,if_true,sS,↓sT,Nat.reduceLT,Nat.reduceEqDiff]; rfl) (by first | rfl | (simp only [if_true]; done) | (simp only [if_true,okV,ok1,okC,okP,List.all_cons,List.all_nil,Bool.and_true]; done)) ?_
                  first | (rw [keep_bool,rightR]; simp_all [isNil,OpS.dropsL]; done) | (rw [keep_bool,rightR]; simp_all [isNil,OpS.dropsL]; omega)
                ·simp only [sS,↓sT,Nat.reduceLT,Nat.reduceEqDiff,↓sO,↓WOps_g,sG,opV,loudV,cellsOf,strOp,evL,Nat.reduceAdd,Int.reduceBEq,Int.reduceBNe,fS49,ti3,ti2,ti4,ti9,sR0,opCells,List.all_cons,List.all_nil,Bool.and_self,gt_iff_lt,lenD,hg3_4,hg3_9,hg3_16,hg3_21,hg3_26,hg3_32,hb4,hb8,hb12,hb16,hg19_4,hg19_9,hg19_21,hb42,hg44_3,hg44_8]
                 refine hN44 _ ?_; try clear hN44 hD44 N44
                 refine WC_ret ?_; (try simp only [Exit.after,Exit.out]); refine Kend_ret (by simp only [resOf,resL,resV,mkS_get,slots_get,cellsOf,if_true,sS,↓sT,Nat.reduceLT,Nat.reduceEqDiff]; rfl) (by first | rfl | (simp only [if_true]; done) | (simp only [if_true,okV,ok1,okC,okP,List.all_cons,List.all_nil,Bool.and_true]; done)) ?_
                 first | (rw [keep_bool,rightR]; simp_all [isNil,OpS.dropsL]; done) | (rw [keep_bool,rightR]; simp_all [isNil,OpS.dropsL]; omega)
               ·simp only [sS,↓sT,Nat.reduceLT,Nat.reduceEqDiff,↓sO,↓WOps_g,sG,opV,loudV,cellsOf,strOp,evL,Nat.reduceAdd,Int.reduceBEq,Int.reduceBNe,fS49,ti3,ti2,ti4,ti9,sR0,opCells,List.all_cons,List.all_nil,Bool.and_self,gt_iff_lt,lenD,hg3_4,hg3_9,hg3_16,hg3_21,hg3_26,hg3_32,hb4,hb8,hb12,hb16,hg19_4,hg19_9,hg19_21,hb42,hg44_3]
                refine hN44 _ ?_; try clear hN44 hD44 N44
                refine WC_ret ?_; (try simp only [Exit.after,Exit.out]); refine Kend_ret (by simp only [resOf,resL,resV,mkS_get,slots_get,cellsOf,if_true,sS,↓sT,Nat.reduceLT,Nat.reduceEqDiff]; rfl) (by first | rfl | (simp only [if_true]; done) | (simp only [if_true,okV,ok1,okC,okP,List.all_cons,List.all_nil,Bool.and_true]; done)) ?_
                first | (rw [keep_bool,rightR]; simp_all [isNil,OpS.dropsL]; done) | (rw [keep_bool,rightR]; simp_all [isNil,OpS.dropsL]; omega)
           ·simp only [sS,↓sT,Nat.reduceLT,Nat.reduceEqDiff,↓sO,↓WOps_g,sG,opV,loudV,cellsOf,strOp,evL,Nat.reduceAdd,Int.reduceBEq,Int.reduceBNe,fS49,ti47,fS47,ti3,ti9,sR0,opCells,List.all_cons,List.all_nil,Bool.and_self,gt_iff_lt,lenD,hg3_4,hg3_9,hg3_16,hg3_21,hg3_26,hg3_32,hb4,hb8,hb12,hb16,hg19_4]
            refine hN19 _ ?_; try clear hN19 hD19 N19
            refine WC_condE ?_
            simp only [sS,↓sT,Nat.reduceLT,Nat.reduceEqDiff,↓stepC_bool,hg3_4,hg3_9,hg3_16,hg3_21,hg3_26,hg3_32,hb4,hb8,hb12,hb16,hg19_4,Int.reduceBEq,Int.reduceBNe,beq_self_eq_true,bne_self_eq_false]
            refine ⟨fun hb => ?_,fun hb => (by cases hb)⟩
            refine WC_seqR (fun N45 hN45 hD45 => ?_)
            simp only [sS,↓sT,Nat.reduceLT,Nat.reduceEqDiff,↓sO,↓WOps_g,sG,opV,loudV,cellsOf,strOp,evL,Nat.reduceAdd,Int.reduceBEq,Int.reduceBNe,sR0,opCells,List.all_cons,List.all_nil,Bool.and_self,gt_iff_lt,lenD,hg3_4,hg3_9,hg3_16,hg3_21,hg3_26,hg3_32,hb4,hb8,hb12,hb16,hg19_4]
            refine hN45 _ ?_; try clear hN45 hD45 N45
            refine WC_ret ?_; (try simp only [Exit.after,Exit.out]); refine Kend_ret (by simp only [resOf,resL,resV,mkS_get,slots_get,cellsOf,if_true,sS,↓sT,Nat.reduceLT,Nat.reduceEqDiff]; rfl) (by first | rfl | (simp only [if_true]; done) | (simp only [if_true,okV,ok1,okC,okP,List.all_cons,List.all_nil,Bool.and_true]; done)) ?_
            clear hN18 hD18 N18
            first | (rw [keep_bool,rightR]; simp_all [isNil,OpS.dropsL]; done) | (rw [keep_bool,rightR]; simp_all [isNil,OpS.dropsL]; omega)
      ·simp only [sS,↓sT,Nat.reduceLT,Nat.reduceEqDiff,↓sO,↓WOps_g,sG,opV,loudV,cellsOf,strOp,evL,Nat.reduceAdd,Int.reduceBEq,Int.reduceBNe,fS49,ti25,buildV,evParts,V.isCell,List.all_cons,List.all_nil,Bool.and_self,if_true,placesOf,fillV,List.getElem?_cons_zero,List.getElem?_cons_succ,List.length_cons,List.length_nil,Nat.zero_add,ne_eq,not_true_eq_false,false_or,gt_iff_lt,if_false,wrL,Option.map_some,List.set_cons_zero,List.set_cons_succ,ti2,ti9,ti49,sR0,opCells,lenD,hg3_4,hg3_9,hg3_16,hg3_21,hg3_26,hg3_32]
       refine hN3 _ ?_; try clear hN3 hD3 N3
       refine WC_condE ?_
       simp only [sS,↓sT,Nat.reduceLT,Nat.reduceEqDiff,↓stepC_bool,hg3_4,hg3_9,hg3_16,hg3_21,hg3_26,hg3_32,Int.reduceBEq,Int.reduceBNe,beq_self_eq_true,bne_self_eq_false]
       refine ⟨fun hb => ?_,fun hb => (by cases hb)⟩
       refine WC_seqR (fun N46 hN46 hD46 => ?_)
       simp only [sS,↓sT,Nat.reduceLT,Nat.reduceEqDiff,↓sO,↓WOps_g,sG,opV,loudV,cellsOf,strOp,evL,Nat.reduceAdd,Int.reduceBEq,Int.reduceBNe,sR0,opCells,List.all_cons,List.all_nil,Bool.and_self,gt_iff_lt,lenD,hg3_4,hg3_9,hg3_16,hg3_21,hg3_26,hg3_32]
       refine hN46 _ ?_; try clear hN46 hD46 N46
       refine WC_ret ?_; (try simp only [Exit.after,Exit.out]); refine Kend_ret (by simp only [resOf,resL,resV,mkS_get,slots_get,cellsOf,if_true,sS,↓sT,Nat.reduceLT,Nat.reduceEqDiff]; rfl) (by first | rfl | (simp only [if_true]; done) | (simp only [if_true,okV,ok1,okC,okP,List.all_cons,List.all_nil,Bool.and_true]; done)) ?_
       clear hN2 hD2 N2
       first | (rw [keep_bool,rightR]; simp_all [isNil,OpS.dropsL]; done) | (rw [keep_bool,rightR]; simp_all [isNil,OpS.dropsL]; omega)
     ·simp only [sS,↓sT,Nat.reduceLT,Nat.reduceEqDiff,↓sO,↓WOps_g,sG,opV,loudV,cellsOf,strOp,evL,Nat.reduceAdd,Int.reduceBEq,Int.reduceBNe,fS49,ti25,buildV,evParts,V.isCell,List.all_cons,List.all_nil,Bool.and_self,if_true,placesOf,fillV,List.getElem?_cons_zero,List.getElem?_cons_succ,List.length_cons,List.length_nil,Nat.zero_add,ne_eq,not_true_eq_false,false_or,gt_iff_lt,if_false,wrL,Option.map_some,List.set_cons_zero,List.set_cons_succ,ti2,ti9,ti49,sR0,opCells,lenD,hg3_4,hg3_9,hg3_16,hg3_21,hg3_26]
      refine hN3 _ ?_; try clear hN3 hD3 N3
      refine WC_condE ?_
      simp only [sS,↓sT,Nat.reduceLT,Nat.reduceEqDiff,↓stepC_bool,hg3_4,hg3_9,hg3_16,hg3_21,hg3_26,Int.reduceBEq,Int.reduceBNe,beq_self_eq_true,bne_self_eq_false]
      refine ⟨fun hb => ?_,fun hb => (by cases hb)⟩
      refine WC_seqR (fun N47 hN47 hD47 => ?_)
      simp only [sS,↓sT,Nat.reduceLT,Nat.reduceEqDiff,↓sO,↓WOps_g,sG,opV,loudV,cellsOf,strOp,evL,Nat.reduceAdd,Int.reduceBEq,Int.reduceBNe,sR0,opCells,List.all_cons,List.all_nil,Bool.and_self,gt_iff_lt,lenD,hg3_4,hg3_9,hg3_16,hg3_21,hg3_26]
      refine hN47 _ ?_; try clear hN47 hD47 N47
      refine WC_ret ?_; (try simp only [Exit.after,Exit.out]); refine Kend_ret (by simp only [resOf,resL,resV,mkS_get,slots_get,cellsOf,if_true,sS,↓sT,Nat.reduceLT,Nat.reduceEqDiff]; rfl) (by first | rfl | (simp only [if_true]; done) | (simp only [if_true,okV,ok1,okC,okP,List.all_cons,List.all_nil,Bool.and_true]; done)) ?_
      clear hN2 hD2 N2
      first | (rw [keep_bool,rightR]; simp_all [isNil,OpS.dropsL]; done) | (rw [keep_bool,rightR]; simp_all [isNil,OpS.dropsL]; omega)
    ·simp only [sS,↓sT,Nat.reduceLT,Nat.reduceEqDiff,↓sO,↓WOps_g,sG,opV,loudV,cellsOf,strOp,evL,Nat.reduceAdd,Int.reduceBEq,Int.reduceBNe,fS49,ti25,buildV,evParts,V.isCell,List.all_cons,List.all_nil,Bool.and_self,if_true,placesOf,fillV,List.getElem?_cons_zero,List.getElem?_cons_succ,List.length_cons,List.length_nil,Nat.zero_add,ne_eq,not_true_eq_false,false_or,gt_iff_lt,if_false,wrL,Option.map_some,List.set_cons_zero,List.set_cons_succ,ti2,ti9,ti49,sR0,opCells,lenD,hg3_4,hg3_9,hg3_16,hg3_21]
     refine hN3 _ ?_; try clear hN3 hD3 N3
     refine WC_condE ?_
     simp only [sS,↓sT,Nat.reduceLT,Nat.reduceEqDiff,↓stepC_bool,hg3_4,hg3_9,hg3_16,hg3_21,Int.reduceBEq,Int.reduceBNe,beq_self_eq_true,bne_self_eq_false]
     refine ⟨fun hb => ?_,fun hb => (by cases hb)⟩
     refine WC_seqR (fun N48 hN48 hD48 => ?_)
     simp only [sS,↓sT,Nat.reduceLT,Nat.reduceEqDiff,↓sO,↓WOps_g,sG,opV,loudV,cellsOf,strOp,evL,Nat.reduceAdd,Int.reduceBEq,Int.reduceBNe,sR0,opCells,List.all_cons,List.all_nil,Bool.and_self,gt_iff_lt,lenD,hg3_4,hg3_9,hg3_16,hg3_21]
     refine hN48 _ ?_; try clear hN48 hD48 N48
     refine WC_ret ?_; (try simp only [Exit.after,Exit.out]); refine Kend_ret (by simp only [resOf,resL,resV,mkS_get,slots_get,cellsOf,if_true,sS,↓sT,Nat.reduceLT,Nat.reduceEqDiff]; rfl) (by first | rfl | (simp only [if_true]; done) | (simp only [if_true,okV,ok1,okC,okP,List.all_cons,List.all_nil,Bool.and_true]; done)) ?_
     clear hN2 hD2 N2
     first | (rw [keep_bool,rightR]; simp_all [isNil,OpS.dropsL]; done) | (rw [keep_bool,rightR]; simp_all [isNil,OpS.dropsL]; omega)
   ·simp only [sS,↓sT,Nat.reduceLT,Nat.reduceEqDiff,↓sO,↓WOps_g,sG,opV,loudV,cellsOf,strOp,evL,Nat.reduceAdd,Int.reduceBEq,Int.reduceBNe,fS49,ti25,buildV,evParts,V.isCell,List.all_cons,List.all_nil,Bool.and_self,if_true,placesOf,fillV,List.getElem?_cons_zero,List.getElem?_cons_succ,List.length_cons,List.length_nil,Nat.zero_add,ne_eq,not_true_eq_false,false_or,gt_iff_lt,if_false,wrL,Option.map_some,List.set_cons_zero,List.set_cons_succ,ti2,ti9,ti49,sR0,opCells,lenD,hg3_4,hg3_9,hg3_16]
    refine hN3 _ ?_; try clear hN3 hD3 N3
    refine WC_condE ?_
    simp only [sS,↓sT,Nat.reduceLT,Nat.reduceEqDiff,↓stepC_bool,hg3_4,hg3_9,hg3_16,Int.reduceBEq,Int.reduceBNe,beq_self_eq_true,bne_self_eq_false]
    refine ⟨fun hb => ?_,fun hb => (by cases hb)⟩
    refine WC_seqR (fun N49 hN49 hD49 => ?_)
    simp only [sS,↓sT,Nat.reduceLT,Nat.reduceEqDiff,↓sO,↓WOps_g,sG,opV,loudV,cellsOf,strOp,evL,Nat.reduceAdd,Int.reduceBEq,Int.reduceBNe,sR0,opCells,List.all_cons,List.all_nil,Bool.and_self,gt_iff_lt,lenD,hg3_4,hg3_9,hg3_16]
    refine hN49 _ ?_; try clear hN49 hD49 N49
    refine WC_ret ?_; (try simp only [Exit.after,Exit.out]); refine Kend_ret (by simp only [resOf,resL,resV,mkS_get,slots_get,cellsOf,if_true,sS,↓sT,Nat.reduceLT,Nat.reduceEqDiff]; rfl) (by first | rfl | (simp only [if_true]; done) | (simp only [if_true,okV,ok1,okC,okP,List.all_cons,List.all_nil,Bool.and_true]; done)) ?_
    clear hN2 hD2 N2
    first | (rw [keep_bool,rightR]; simp_all [isNil,OpS.dropsL]; done) | (rw [keep_bool,rightR]; simp_all [isNil,OpS.dropsL]; omega)
  ·simp only [sS,↓sT,Nat.reduceLT,Nat.reduceEqDiff,↓sO,↓WOps_g,sG,opV,loudV,cellsOf,strOp,evL,Nat.reduceAdd,Int.reduceBEq,Int.reduceBNe,fS49,ti25,buildV,evParts,V.isCell,List.all_cons,List.all_nil,Bool.and_self,if_true,placesOf,fillV,List.getElem?_cons_zero,List.getElem?_cons_succ,List.length_cons,List.length_nil,Nat.zero_add,ne_eq,not_true_eq_false,false_or,gt_iff_lt,if_false,wrL,Option.map_some,List.set_cons_zero,List.set_cons_succ,ti2,ti9,ti49,sR0,opCells,lenD,hg3_4,hg3_9]
   refine stepB_F (fun hg3_21 => ?_) (fun hg3_21 => ?_)
   ·simp only [sS,↓sT,Nat.reduceLT,Nat.reduceEqDiff,↓sO,↓WOps_g,sG,opV,loudV,cellsOf,strOp,evL,Nat.reduceAdd,Int.reduceBEq,Int.reduceBNe,fS49,ti25,buildV,evParts,V.isCell,List.all_cons,List.all_nil,Bool.and_self,if_true,placesOf,fillV,List.getElem?_cons_zero,List.getElem?_cons_succ,List.length_cons,List.length_nil,Nat.zero_add,ne_eq,not_true_eq_false,false_or,gt_iff_lt,if_false,wrL,Option.map_some,List.set_cons_zero,List.set_cons_succ,ti2,ti9,ti49,sR0,opCells,lenD,hg3_4,hg3_9,hg3_21]
    refine stepB_F (fun hg3_26 => ?_) (fun hg3_26 => ?_)
    ·simp only [sS,↓sT,Nat.reduceLT,Nat.reduceEqDiff,↓sO,↓WOps_g,sG,opV,loudV,cellsOf,strOp,evL,Nat.reduceAdd,Int.reduceBEq,Int.reduceBNe,fS49,ti25,buildV,evParts,V.isCell,List.all_cons,List.all_nil,Bool.and_self,if_true,placesOf,fillV,List.getElem?_cons_zero,List.getElem?_cons_succ,List.length_cons,List.length_nil,Nat.zero_add,ne_eq,not_true_eq_false,false_or,gt_iff_lt,if_false,wrL,Option.map_some,List.set_cons_zero,List.set_cons_succ,ti2,ti9,ti49,sR0,opCells,lenD,hg3_4,hg3_9,hg3_21,hg3_26]
     refine WOps_callP (c_refname _) (by simp only [ev_func]) (by simp only [evL,sS,↓sT,Nat.reduceLT,Nat.reduceEqDiff]; rfl) (by first | rfl | (simp only [List.map,op_bare,tag_bare,ref_bare,bare_str]; done) | (simp only [List.map,op_bare,tag_bare,ref_bare,bare_str]; exact rfl)) (by first | rfl | simp [op_noP,tag_noP,ref_noP,noP_str]) (by first | rfl | simp [op_noP,tag_noP,ref_noP,noP_str]) (by first | exact op_bare _ | rfl) ?_
     simp only [sS,↓sT,Nat.reduceLT,Nat.reduceEqDiff,↓sO,↓WOps_g,sG,opV,loudV,cellsOf,strOp,evL,Nat.reduceAdd,Int.reduceBEq,Int.reduceBNe,fS49,ti25,buildV,evParts,V.isCell,List.all_cons,List.all_nil,Bool.and_self,if_true,placesOf,fillV,List.getElem?_cons_zero,List.getElem?_cons_succ,List.length_cons,List.length_nil,Nat.zero_add,ne_eq,not_true_eq_false,false_or,gt_iff_lt,if_false,wrL,Option.map_some,List.set_cons_zero,List.set_cons_succ,ti2,ti9,ti49,sR0,opCells,lenD,hg3_4,hg3_9,hg3_21,hg3_26]
     refine stepB_F (fun hg3_32 => ?_) (fun hg3_32 => ?_)
     ·simp only [sS,↓sT,Nat.reduceLT,Nat.reduceEqDiff,↓sO,↓WOps_g,sG,opV,loudV,cellsOf,strOp,evL,Nat.reduceAdd,Int.reduceBEq,Int.reduceBNe,fS49,ti25,buildV,evParts,V.isCell,List.all_cons,List.all_nil,Bool.and_self,if_true,placesOf,fillV,List.getElem?_cons_zero,List.getElem?_cons_succ,List.length_cons,List.length_nil,Nat.zero_add,ne_eq,not_true_eq_false,false_or,gt_iff_lt,if_false,wrL,Option.map_some,List.set_cons_zero,List.set_cons_succ,ti2,ti9,ti49,sR0,opCells,lenD,hg3_4,hg3_9,hg3_21,hg3_26,hg3_32]
      refine WOps_callP (c_punnet_punnetref20_drops o) (by simp only [ev_func]) (by simp only [evL,sS,↓sT,Nat.reduceLT,Nat.reduceEqDiff]; rfl) (by first | rfl | (simp only [List.map,op_bare,tag_bare,ref_bare,bare_str]; done) | (simp only [List.map,op_bare,tag_bare,ref_bare,bare_str]; exact rfl)) (by first | rfl | simp [op_noP,tag_noP,ref_noP,noP_str]) (by first | rfl | simp [op_noP,tag_noP,ref_noP,noP_str]) (by first | exact op_bare _ | rfl) ?_
      simp only [sS,↓sT,Nat.reduceLT,Nat.reduceEqDiff,↓sO,↓WOps_g,sG,opV,loudV,cellsOf,strOp,evL,Nat.reduceAdd,Int.reduceBEq,Int.reduceBNe,fS49,ti25,buildV,evParts,V.isCell,List.all_cons,List.all_nil,Bool.and_self,if_true,placesOf,fillV,List.getElem?_cons_zero,List.getElem?_cons_succ,List.length_cons,List.length_nil,Nat.zero_add,ne_eq,not_true_eq_false,false_or,gt_iff_lt,if_false,wrL,Option.map_some,List.set_cons_zero,List.set_cons_succ,ti2,ti9,ti49,sR0,opCells,lenD,hg3_4,hg3_9,hg3_21,hg3_26,hg3_32]
      refine hN3 _ ?_; try clear hN3 hD3 N3
      refine WC_condE ?_
      simp only [sS,↓sT,Nat.reduceLT,Nat.reduceEqDiff,↓stepC_bool,hg3_4,hg3_9,hg3_21,hg3_26,hg3_32,Int.reduceBEq,Int.reduceBNe,beq_self_eq_true,bne_self_eq_false]
      refine ⟨fun hb50 => ?_,fun hb50 => ?_⟩
      ·refine WC_seqR (fun N51 hN51 hD51 => ?_)
       simp only [sS,↓sT,Nat.reduceLT,Nat.reduceEqDiff,↓sO,↓WOps_g,sG,opV,loudV,cellsOf,strOp,evL,Nat.reduceAdd,Int.reduceBEq,Int.reduceBNe,sR0,opCells,List.all_cons,List.all_nil,Bool.and_self,gt_iff_lt,lenD,hg3_4,hg3_9,hg3_21,hg3_26,hg3_32,hb50]
       refine hN51 _ ?_; try clear hN51 hD51 N51
       refine WC_ret ?_; (try simp only [Exit.after,Exit.out]); refine Kend_ret (by simp only [resOf,resL,resV,mkS_get,slots_get,cellsOf,if_true,sS,↓sT,Nat.reduceLT,Nat.reduceEqDiff]; rfl) (by first | rfl | (simp only [if_true]; done) | (simp only [if_true,okV,ok1,okC,okP,List.all_cons,List.all_nil,Bool.and_true]; done)) ?_
       clear hN2 hD2 N2
       first | (rw [keep_bool,rightR]; simp_all [isNil,OpS.dropsL]; done) | (rw [keep_bool,rightR]; simp_all [isNil,OpS.dropsL]; omega)
      ·refine WC_skip ?_
       refine hN2 _ ?_; try clear hN2 hD2 N2
       refine WC_seqN (fun N52 hN52 hD52 => ?_)
       refine WC_seqR (fun N53 hN53 hD53 => ?_)
       simp only [sS,↓sT,Nat.reduceLT,Nat.reduceEqDiff,↓sO,↓WOps_g,sG,opV,loudV,cellsOf,strOp,evL,Nat.reduceAdd,Int.reduceBEq,Int.reduceBNe,fS49,ti3,sR0,opCells,List.all_cons,List.all_nil,Bool.and_self,gt_iff_lt,lenD,hg3_4,hg3_9,hg3_21,hg3_26,hg3_32,hb50]
       refine hN53 _ ?_; try clear hN53 hD53 N53
       refine WC_condE ?_
       simp only [sS,↓sT,Nat.reduceLT,Nat.reduceEqDiff,↓stepC_bool,hg3_4,hg3_9,hg3_21,hg3_26,hg3_32,hb50,Int.reduceBEq,Int.reduceBNe,beq_self_eq_true,bne_self_eq_false]
       refine ⟨fun hb54 => ?_,fun hb54 => ?_⟩
       ·refine WC_seqR (fun N55 hN55 hD55 => ?_)
        simp only [sS,↓sT,Nat.reduceLT,Nat.reduceEqDiff,↓sO,↓WOps_g,sG,opV,loudV,cellsOf,strOp,evL,Nat.reduceAdd,Int.reduceBEq,Int.reduceBNe,fS49,ti9,ti49,sR0,opCells,List.all_cons,List.all_nil,Bool.and_self,gt_iff_lt,lenD,hg3_4,hg3_9,hg3_21,hg3_26,hg3_32,hb50,hb54]
        refine stepB_T (fun hg55_3 => ?_) (fun hg55_3 => ?_)
        ·simp only [sS,↓sT,Nat.reduceLT,Nat.reduceEqDiff,↓sO,↓WOps_g,sG,opV,loudV,cellsOf,strOp,evL,Nat.reduceAdd,Int.reduceBEq,Int.reduceBNe,fS49,ti9,ti49,sR0,opCells,List.all_cons,List.all_nil,Bool.and_self,gt_iff_lt,lenD,hg3_4,hg3_9,hg3_21,hg3_26,hg3_32,hb50,hb54,hg55_3]
         refine WOps_callP (c_punnet_punnetref20_plain o) (by simp only [ev_func]) (by simp only [evL,sS,↓sT,Nat.reduceLT,Nat.reduceEqDiff]; rfl) (by first | rfl | (simp only [List.map,op_bare,tag_bare,ref_bare,bare_str]; done) | (simp only [List.map,op_bare,tag_bare,ref_bare,bare_str]; exact rfl)) (by first | rfl | simp [op_noP,tag_noP,ref_noP,noP_str]) (by first | rfl | simp [op_noP,tag_noP,ref_noP,noP_str]) (by first | exact op_bare _ | rfl) ?_
         simp only [sS,↓sT,Nat.reduceLT,Nat.reduceEqDiff,↓sO,↓WOps_g,sG,opV,loudV,cellsOf,strOp,evL,Nat.reduceAdd,Int.reduceBEq,Int.reduceBNe,fS49,ti9,ti49,sR0,opCells,List.all_cons,List.all_nil,Bool.and_self,gt_iff_lt,lenD,hg3_4,hg3_9,hg3_21,hg3_26,hg3_32,hb50,hb54,hg55_3]
         refine hN55 _ ?_; try clear hN55 hD55 N55
         refine WC_ret ?_; (try simp only [Exit.after,Exit.out]); refine Kend_ret (by simp only [resOf,resL,resV,mkS_get,slots_get,cellsOf,if_true,sS,↓sT,Nat.reduceLT,Nat.reduceEqDiff]; rfl) (by first | rfl | (simp only [if_true]; done) | (simp only [if_true,okV,ok1,okC,okP,List.all_cons,List.all_nil,Bool.and_true]; done)) ?_
         clear hN52 hD52 N52
         first | (rw [keep_bool,rightR]; simp_all [isNil,OpS.dropsL]; done) | (rw [keep_bool,rightR]; simp_all [isNil,OpS.dropsL]; omega)
        ·simp only [sS,↓sT,Nat.reduceLT,Nat.reduceEqDiff,↓sO,↓WOps_g,sG,opV,loudV,cellsOf,strOp,evL,Nat.reduceAdd,Int.reduceBEq,Int.reduceBNe,fS49,ti9,ti49,sR0,opCells,List.all_cons,List.all_nil,Bool.and_self,gt_iff_lt,lenD,hg3_4,hg3_9,hg3_21,hg3_26,hg3_32,hb50,hb54,hg55_3]
         refine hN55 _ ?_; try clear hN55 hD55 N55
         refine WC_ret ?_; (try simp only [Exit.after,Exit.out]); refine Kend_ret (by simp only [resOf,resL,resV,mkS_get,slots_get,cellsOf,if_true,sS,↓sT,Nat.reduceLT,Nat.reduceEqDiff]; rfl) (by first | rfl | (simp only [if_true]; done) | (simp only [if_true,okV,ok1,okC,okP,List.all_cons,List.all_nil,Bool.and_true]; done)) ?_
         clear hN52 hD52 N52
         first | (rw [keep_bool,rightR]; simp_all [isNil,OpS.dropsL]; done) | (rw [keep_bool,rightR]; simp_all [isNil,OpS.dropsL]; omega)
       ·refine WC_skip ?_
        refine hN52 _ ?_; try clear hN52 hD52 N52
        refine WC_seqN (fun N56 hN56 hD56 => ?_)
        refine WC_seqR (fun N57 hN57 hD57 => ?_)
        simp only [sS,↓sT,Nat.reduceLT,Nat.reduceEqDiff,↓sO,↓WOps_g,sG,opV,loudV,cellsOf,strOp,evL,Nat.reduceAdd,Int.reduceBEq,Int.reduceBNe,fS49,ti3,sR0,opCells,List.all_cons,List.all_nil,Bool.and_self,gt_iff_lt,lenD,hg3_4,hg3_9,hg3_21,hg3_26,hg3_32,hb50,hb54]
        refine hN57 _ ?_; try clear hN57 hD57 N57
        refine WC_condE ?_
        simp only [sS,↓sT,Nat.reduceLT,Nat.reduceEqDiff,↓stepC_bool,hg3_4,hg3_9,hg3_21,hg3_26,hg3_32,hb50,hb54,Int.reduceBEq,Int.reduceBNe,beq_self_eq_true,bne_self_eq_false]
        refine ⟨fun hb58 => ?_,fun hb58 => ?_⟩
        ·refine WC_seqR (fun N59 hN59 hD59 => ?_)
         simp only [sS,↓sT,Nat.reduceLT,Nat.reduceEqDiff,↓sO,↓WOps_g,sG,opV,loudV,cellsOf,strOp,evL,Nat.reduceAdd,Int.reduceBEq,Int.reduceBNe,fS49,ti9,ti49,ti38,sR0,opCells,List.all_cons,List.all_nil,Bool.and_self,gt_iff_lt,lenD,hg3_4,hg3_9,hg3_21,hg3_26,hg3_32,hb50,hb54,hb58]
         refine WOps_callP (c_refname _) (by simp only [ev_func]) (by simp only [evL,sS,↓sT,Nat.reduceLT,Nat.reduceEqDiff]; rfl) (by first | rfl | (simp only [List.map,op_bare,tag_bare,ref_bare,bare_str]; done) | (simp only [List.map,op_bare,tag_bare,ref_bare,bare_str]; exact rfl)) (by first | rfl | simp [op_noP,tag_noP,ref_noP,noP_str]) (by first | rfl | simp [op_noP,tag_noP,ref_noP,noP_str]) (by first | exact op_bare _ | rfl) ?_
         simp only [sS,↓sT,Nat.reduceLT,Nat.reduceEqDiff,↓sO,↓WOps_g,sG,opV,loudV,cellsOf,strOp,evL,Nat.reduceAdd,Int.reduceBEq,Int.reduceBNe,fS49,ti9,ti49,ti38,sR0,opCells,List.all_cons,List.all_nil,Bool.and_self,gt_iff_lt,lenD,hg3_4,hg3_9,hg3_21,hg3_26,hg3_32,hb50,hb54,hb58]
         refine stepB_T (fun hg59_3 => ?_) (fun hg59_3 => ?_)
         ·simp only [sS,↓sT,Nat.reduceLT,Nat.reduceEqDiff,↓sO,↓WOps_g,sG,opV,loudV,cellsOf,strOp,evL,Nat.reduceAdd,Int.reduceBEq,Int.reduceBNe,fS49,ti9,ti49,ti38,sR0,opCells,List.all_cons,List.all_nil,Bool.and_self,gt_iff_lt,lenD,hg3_4,hg3_9,hg3_21,hg3_26,hg3_32,hb50,hb54,hb58,hg59_3]
          refine WOps_callP (c_punnet_punnetref20_plain o) (by simp only [ev_func]) (by simp only [evL,sS,↓sT,Nat.reduceLT,Nat.reduceEqDiff]; rfl) (by first | rfl | (simp only [List.map,op_bare,tag_bare,ref_bare,bare_str]; done) | (simp only [List.map,op_bare,tag_bare,ref_bare,bare_str]; exact rfl)) (by first | rfl | simp [op_noP,tag_noP,ref_noP,noP_str]) (by first | rfl | simp [op_noP,tag_noP,ref_noP,noP_str]) (by first | exact op_bare _ | rfl) ?_
          simp only [sS,↓sT,Nat.reduceLT,Nat.reduceEqDiff,↓sO,↓WOps_g,sG,opV,loudV,cellsOf,strOp,evL,Nat.reduceAdd,Int.reduceBEq,Int.reduceBNe,fS49,ti9,ti49,ti38,sR0,opCells,List.all_cons,List.all_nil,Bool.and_self,gt_iff_lt,lenD,hg3_4,hg3_9,hg3_21,hg3_26,hg3_32,hb50,hb54,hb58,hg59_3]
          refine stepB_T (fun hg59_7 => ?_) (fun hg59_7 => ?_)
          ·simp only [sS,↓sT,Nat.reduceLT,Nat.reduceEqDiff,↓sO,↓WOps_g,sG,opV,loudV,cellsOf,strOp,evL,Nat.reduceAdd,Int.reduceBEq,Int.reduceBNe,fS49,ti9,ti49,ti38,sR0,opCells,List.all_cons,List.all_nil,Bool.and_self,gt_iff_lt,lenD,hg3_4,hg3_9,hg3_21,hg3_26,hg3_32,hb50,hb54,hb58,hg59_3,hg59_7]
           refine hN59 _ ?_; try clear hN59 hD59 N59
           refine WC_ret ?_; (try simp only [Exit.after,Exit.out]); refine Kend_ret (by simp only [resOf,resL,resV,mkS_get,slots_get,cellsOf,if_true,sS,↓sT,Nat.reduceLT,Nat.reduceEqDiff]; rfl) (by first | rfl | (simp only [if_true]; done) | (simp only [if_true,okV,ok1,okC,okP,List.all_cons,List.all_nil,Bool.and_true]; done)) ?_
           clear hN56 hD56 N56
           first | (rw [keep_bool,rightR]; simp_all [isNil,OpS.dropsL]; done) | (rw [keep_bool,rightR]; simp_all [isNil,OpS.dropsL]; omega)
          ·simp only [sS,↓sT,Nat.reduceLT,Nat.reduceEqDiff,↓sO,↓WOps_g,sG,opV,loudV,cellsOf,strOp,evL,Nat.reduceAdd,Int.reduceBEq,Int.reduceBNe,fS49,ti9,ti49,ti38,sR0,opCells,List.all_cons,List.all_nil,Bool.and_self,gt_iff_lt,lenD,hg3_4,hg3_9,hg3_21,hg3_26,hg3_32,hb50,hb54,hb58,hg59_3,hg59_7]
           refine hN59 _ ?_; try clear hN59 hD59 N59
           refine WC_ret ?_; (try simp only [Exit.after,Exit.out]); refine Kend_ret (by simp only [resOf,resL,resV,mkS_get,slots_get,cellsOf,if_true,sS,↓sT,Nat.reduceLT,Nat.reduceEqDiff]; rfl) (by first | rfl | (simp only [if_true]; done) | (simp only [if_true,okV,ok1,okC,okP,List.all_cons,List.all_nil,Bool.and_true]; done)) ?_
           clear hN56 hD56 N56
           first | (rw [keep_bool,rightR]; simp_all [isNil,OpS.dropsL]; done) | (rw [keep_bool,rightR]; simp_all [isNil,OpS.dropsL]; omega)
         ·simp only [sS,↓sT,Nat.reduceLT,Nat.reduceEqDiff,↓sO,↓WOps_g,sG,opV,loudV,cellsOf,strOp,evL,Nat.reduceAdd,Int.reduceBEq,Int.reduceBNe,fS49,ti9,ti49,ti38,sR0,opCells,List.all_cons,List.all_nil,Bool.and_self,gt_iff_lt,lenD,hg3_4,hg3_9,hg3_21,hg3_26,hg3_32,hb50,hb54,hb58,hg59_3]
          refine hN59 _ ?_; try clear hN59 hD59 N59
          refine WC_ret ?_; (try simp only [Exit.after,Exit.out]); refine Kend_ret (by simp only [resOf,resL,resV,mkS_get,slots_get,cellsOf,if_true,sS,↓sT,Nat.reduceLT,Nat.reduceEqDiff]; rfl) (by first | rfl | (simp only [if_true]; done) | (simp only [if_true,okV,ok1,okC,okP,List.all_cons,List.all_nil,Bool.and_true]; done)) ?_
          clear hN56 hD56 N56
          first | (rw [keep_bool,rightR]; simp_all [isNil,OpS.dropsL]; done) | (rw [keep_bool,rightR]; simp_all [isNil,OpS.dropsL]; omega)
        ·refine WC_skip ?_
         refine hN56 _ ?_; try clear hN56 hD56 N56
         refine WC_seqN (fun N60 hN60 hD60 => ?_)
         refine WC_seqR (fun N61 hN61 hD61 => ?_)
         simp only [sS,↓sT,Nat.reduceLT,Nat.reduceEqDiff,↓sO,↓WOps_g,sG,opV,loudV,cellsOf,strOp,evL,Nat.reduceAdd,Int.reduceBEq,Int.reduceBNe,fS49,ti3,sR0,opCells,List.all_cons,List.all_nil,Bool.and_self,gt_iff_lt,lenD,hg3_4,hg3_9,hg3_21,hg3_26,hg3_32,hb50,hb54,hb58]
         refine hN61 _ ?_; try clear hN61 hD61 N61
         refine WC_condE ?_
         simp only [sS,↓sT,Nat.reduceLT,Nat.reduceEqDiff,↓stepC_bool,hg3_4,hg3_9,hg3_21,hg3_26,hg3_32,hb50,hb54,hb58,Int.reduceBEq,Int.reduceBNe,beq_self_eq_true,bne_self_eq_false]
         refine ⟨fun hb62 => ?_,fun hb62 => ?_⟩
         ·refine WC_seqR (fun N63 hN63 hD63 => ?_)
          simp only [sS,↓sT,Nat.reduceLT,Nat.reduceEqDiff,↓sO,↓WOps_g,sG,opV,loudV,cellsOf,strOp,evL,Nat.reduceAdd,Int.reduceBEq,Int.reduceBNe,fS49,ti9,ti49,sR0,opCells,List.all_cons,List.all_nil,Bool.and_self,gt_iff_lt,lenD,hg3_4,hg3_9,hg3_21,hg3_26,hg3_32,hb50,hb54,hb58,hb62]
          refine WOps_callP (c_refname _) (by simp only [ev_func]) (by simp only [evL,sS,↓sT,Nat.reduceLT,Nat.reduceEqDiff]; rfl) (by first | rfl | (simp only [List.map,op_bare,tag_bare,ref_bare,bare_str]; done) | (simp only [List.map,op_bare,tag_bare,ref_bare,bare_str]; exact rfl)) (by first | rfl | simp [op_noP,tag_noP,ref_noP,noP_str]) (by first | rfl | simp [op_noP,tag_noP,ref_noP,noP_str]) (by first | exact op_bare _ | rfl) ?_
          simp only [sS,↓sT,Nat.reduceLT,Nat.reduceEqDiff,↓sO,↓WOps_g,sG,opV,loudV,cellsOf,strOp,evL,Nat.reduceAdd,Int.reduceBEq,Int.reduceBNe,fS49,ti9,ti49,sR0,opCells,List.all_cons,List.all_nil,Bool.and_self,gt_iff_lt,lenD,hg3_4,hg3_9,hg3_21,hg3_26,hg3_32,hb50,hb54,hb58,hb62]
          refine stepB_T (fun hg63_3 => ?_) (fun hg63_3 => ?_)
          ·simp only [sS,↓sT,Nat.reduceLT,Nat.reduceEqDiff,↓sO,↓WOps_g,sG,opV,loudV,cellsOf,strOp,evL,Nat.reduceAdd,Int.reduceBEq,Int.reduceBNe,fS49,ti9,ti49,sR0,opCells,List.all_cons,List.all_nil,Bool.and_self,gt_iff_lt,lenD,hg3_4,hg3_9,hg3_21,hg3_26,hg3_32,hb50,hb54,hb58,hb62,hg63_3]
           refine WOps_callP (c_punnet_punnetref20_plain o) (by simp only [ev_func]) (by simp only [evL,sS,↓sT,Nat.reduceLT,Nat.reduceEqDiff]; rfl) (by first | rfl | (simp only [List.map,op_bare,tag_bare,ref_bare,bare_str]; done) | (simp only [List.map,op_bare,tag_bare,ref_bare,bare_str]; exact rfl)) (by first | rfl | simp [op_noP,tag_noP,ref_noP,noP_str]) (by first | rfl | simp [op_noP,tag_noP,ref_noP,noP_str]) (by first | exact op_bare _ | rfl) ?_
           simp only [sS,↓sT,Nat.reduceLT,Nat.reduceEqDiff,↓sO,↓WOps_g,sG,opV,loudV,cellsOf,strOp,evL,Nat.reduceAdd,Int.reduceBEq,Int.reduceBNe,fS49,ti9,ti49,sR0,opCells,List.all_cons,List.all_nil,Bool.and_self,gt_iff_lt,lenD,hg3_4,hg3_9,hg3_21,hg3_26,hg3_32,hb50,hb54,hb58,hb62,hg63_3]
           refine hN63 _ ?_; try clear hN63 hD63 N63
           refine WC_ret ?_; (try simp only [Exit.after,Exit.out]); refine Kend_ret (by simp only [resOf,resL,resV,mkS_get,slots_get,cellsOf,if_true,sS,↓sT,Nat.reduceLT,Nat.reduceEqDiff]; rfl) (by first | rfl | (simp only [if_true]; done) | (simp only [if_true,okV,ok1,okC,okP,List.all_cons,List.all_nil,Bool.and_true]; done)) ?_
           clear hN60 hD60 N60
           first | (rw [keep_bool,rightR]; simp_all [isNil,OpS.dropsL]; done) | (rw [keep_bool,rightR]; simp_all [isNil,OpS.dropsL]; omega)
          ·simp only [sS,↓sT,Nat.reduceLT,Nat.reduceEqDiff,↓sO,↓WOps_g,sG,opV,loudV,cellsOf,strOp,evL,Nat.reduceAdd,Int.reduceBEq,Int.reduceBNe,fS49,ti9,ti49,sR0,opCells,List.all_cons,List.all_nil,Bool.and_self,gt_iff_lt,lenD,hg3_4,hg3_9,hg3_21,hg3_26,hg3_32,hb50,hb54,hb58,hb62,hg63_3]
           refine hN63 _ ?_; try clear hN63 hD63 N63
           refine WC_ret ?_; (try simp only [Exit.after,Exit.out]); refine Kend_ret (by simp only [resOf,resL,resV,mkS_get,slots_get,cellsOf,if_true,sS,↓sT,Nat.reduceLT,Nat.reduceEqDiff]; rfl) (by first | rfl | (simp only [if_true]; done) | (simp only [if_true,okV,ok1,okC,okP,List.all_cons,List.all_nil,Bool.and_true]; done)) ?_
           clear hN60 hD60 N60
           first | (rw [keep_bool,rightR]; simp_all [isNil,OpS.dropsL]; done) | (rw [keep_bool,rightR]; simp_all [isNil,OpS.dropsL]; omega)
         ·refine WC_skip ?_
          refine hN60 _ ?_; try clear hN60 hD60 N60
          refine WC_seqN (fun N64 hN64 hD64 => ?_)
          refine WC_seqR (fun N65 hN65 hD65 => ?_)
          simp only [sS,↓sT,Nat.reduceLT,Nat.reduceEqDiff,↓sO,↓WOps_g,sG,opV,loudV,cellsOf,strOp,evL,Nat.reduceAdd,Int.reduceBEq,Int.reduceBNe,fS49,ti47,fS47,ti3,ti9,sR0,opCells,List.all_cons,List.all_nil,Bool.and_self,gt_iff_lt,lenD,hg3_4,hg3_9,hg3_21,hg3_26,hg3_32,hb50,hb54,hb58,hb62]
          refine WOps_callP (c_punnet_punnetref13_Place _ _ _) (by simp only [ev_func]) (by simp only [evL,sS,↓sT,Nat.reduceLT,Nat.reduceEqDiff]; rfl) (by first | rfl | (simp only [List.map,op_bare,tag_bare,ref_bare,bare_str]; done) | (simp only [List.map,op_bare,tag_bare,ref_bare,bare_str]; exact rfl)) (by first | rfl | simp [op_noP,tag_noP,ref_noP,noP_str]) (by first | rfl | simp [op_noP,tag_noP,ref_noP,noP_str]) (by first | exact op_bare _ | rfl) ?_
          simp only [sS,↓sT,Nat.reduceLT,Nat.reduceEqDiff,↓sO,↓WOps_g,sG,opV,loudV,cellsOf,strOp,evL,Nat.reduceAdd,Int.reduceBEq,Int.reduceBNe,fS49,ti47,fS47,ti3,ti9,sR0,opCells,List.all_cons,List.all_nil,Bool.and_self,gt_iff_lt,lenD,hg3_4,hg3_9,hg3_21,hg3_26,hg3_32,hb50,hb54,hb58,hb62]
          refine stepB_F (fun hg65_4 => ?_) (fun hg65_4 => ?_)
          ·simp only [sS,↓sT,Nat.reduceLT,Nat.reduceEqDiff,↓sO,↓WOps_g,sG,opV,loudV,cellsOf,strOp,evL,Nat.reduceAdd,Int.reduceBEq,Int.reduceBNe,fS49,ti47,fS47,ti3,ti9,sR0,opCells,List.all_cons,List.all_nil,Bool.and_self,gt_iff_lt,lenD,hg3_4,hg3_9,hg3_21,hg3_26,hg3_32,hb50,hb54,hb58,hb62,hg65_4]
           refine stepB_T (fun hg65_9 => ?_) (fun hg65_9 => ?_)
           ·simp only [sS,↓sT,Nat.reduceLT,Nat.reduceEqDiff,↓sO,↓WOps_g,sG,opV,loudV,cellsOf,strOp,evL,Nat.reduceAdd,Int.reduceBEq,Int.reduceBNe,fS49,ti47,fS47,ti3,ti9,sR0,opCells,List.all_cons,List.all_nil,Bool.and_self,gt_iff_lt,lenD,hg3_4,hg3_9,hg3_21,hg3_26,hg3_32,hb50,hb54,hb58,hb62,hg65_4,hg65_9]
            refine WOps_callP (c_refname _) (by simp only [ev_func]) (by simp only [evL,sS,↓sT,Nat.reduceLT,Nat.reduceEqDiff]; rfl) (by first | rfl | (simp only [List.map,op_bare,tag_bare,ref_bare,bare_str]; done) | (simp only [List.map,op_bare,tag_bare,ref_bare,bare_str]; exact rfl)) (by first | rfl | simp [op_noP,tag_noP,ref_noP,noP_str]) (by first | rfl | simp [op_noP,tag_noP,ref_noP,noP_str]) (by first | exact op_bare _ | rfl) ?_
            simp only [sS,↓sT,Nat.reduceLT,Nat.reduceEqDiff,↓sO,↓WOps_g,sG,opV,loudV,cellsOf,strOp,evL,Nat.reduceAdd,Int.reduceBEq,Int.reduceBNe,fS49,ti47,fS47,ti3,ti9,sR0,opCells,List.all_cons,List.all_nil,Bool.and_self,gt_iff_lt,lenD,hg3_4,hg3_9,hg3_21,hg3_26,hg3_32,hb50,hb54,hb58,hb62,hg65_4,hg65_9]
            refine stepB_F (fun hg65_16 => ?_) (fun hg65_16 => ?_)
            ·simp only [sS,↓sT,Nat.reduceLT,Nat.reduceEqDiff,↓sO,↓WOps_g,sG,opV,loudV,cellsOf,strOp,evL,Nat.reduceAdd,Int.reduceBEq,Int.reduceBNe,fS49,ti47,fS47,ti3,ti9,sR0,opCells,List.all_cons,List.all_nil,Bool.and_self,gt_iff_lt,lenD,hg3_4,hg3_9,hg3_21,hg3_26,hg3_32,hb50,hb54,hb58,hb62,hg65_4,hg65_9,hg65_16]
             refine stepB_T (fun hg65_21 => ?_) (fun hg65_21 => ?_)
             ·simp only [sS,↓sT,Nat.reduceLT,Nat.reduceEqDiff,↓sO,↓WOps_g,sG,opV,loudV,cellsOf,strOp,evL,Nat.reduceAdd,Int.reduceBEq,Int.reduceBNe,fS49,ti47,fS47,ti3,ti9,sR0,opCells,List.all_cons,List.all_nil,Bool.and_self,gt_iff_lt,lenD,hg3_4,hg3_9,hg3_21,hg3_26,hg3_32,hb50,hb54,hb58,hb62,hg65_4,hg65_9,hg65_16,hg65_21]
              refine hN65 _ ?_; try clear hN65 hD65 N65
              refine WC_condE ?_
              simp only [sS,↓sT,Nat.reduceLT,Nat.reduceEqDiff,↓stepC_bool,hg3_4,hg3_9,hg3_21,hg3_26,hg3_32,hb50,hb54,hb58,hb62,hg65_4,hg65_9,hg65_16,hg65_21,Int.reduceBEq,Int.reduceBNe,beq_self_eq_true,bne_self_eq_false]
              refine ⟨fun hb66 => ?_,fun hb66 => ?_⟩
              ·refine WC_seqR (fun N67 hN67 hD67 => ?_)
               simp only [sS,↓sT,Nat.reduceLT,Nat.reduceEqDiff,↓sO,↓WOps_g,sG,opV,loudV,cellsOf,strOp,evL,Nat.reduceAdd,Int.reduceBEq,Int.reduceBNe,sR0,opCells,List.all_cons,List.all_nil,Bool.and_self,gt_iff_lt,lenD,hg3_4,hg3_9,hg3_21,hg3_26,hg3_32,hb50,hb54,hb58,hb62,hg65_4,hg65_9,hg65_16,hg65_21,hb66]
               refine hN67 _ ?_; try clear hN67 hD67 N67
               refine WC_ret ?_; (try simp only [Exit.after,Exit.out]); refine Kend_ret (by simp only [resOf,resL,resV,mkS_get,slots_get,cellsOf,if_true,sS,↓sT,Nat.reduceLT,Nat.reduceEqDiff]; rfl) (by first | rfl | (simp only [if_true]; done) | (simp only [if_true,okV,ok1,okC,okP,List.all_cons,List.all_nil,Bool.and_true]; done)) ?_
               clear hN64 hD64 N64
               first | (rw [keep_bool,rightR]; simp_all [isNil,OpS.dropsL]; done) | (rw [keep_bool,rightR]; simp_all [isNil,OpS.dropsL]; omega)
              ·refine WC_skip ?_
               refine hN64 _ ?_; try clear hN64 hD64 N64
               refine WC_seqN (fun N68 hN68 hD68 => ?_)
               refine WC_seqR (fun N69 hN69 hD69 => ?_)
               simp only [sS,↓sT,Nat.reduceLT,Nat.reduceEqDiff,↓sO,↓WOps_g,sG,opV,loudV,cellsOf,strOp,evL,Nat.reduceAdd,Int.reduceBEq,Int.reduceBNe,fS49,ti3,sR0,opCells,List.all_cons,List.all_nil,Bool.and_self,gt_iff_lt,lenD,hg3_4,hg3_9,hg3_21,hg3_26,hg3_32,hb50,hb54,hb58,hb62,hg65_4,hg65_9,hg65_16,hg65_21,hb66]
               refine hN69 _ ?_; try clear hN69 hD69 N69
               refine WC_condE ?_
               simp only [sS,↓sT,Nat.reduceLT,Nat.reduceEqDiff,↓stepC_bool,hg3_4,hg3_9,hg3_21,hg3_26,hg3_32,hb50,hb54,hb58,hb62,hg65_4,hg65_9,hg65_16,hg65_21,hb66,Int.reduceBEq,Int.reduceBNe,beq_self_eq_true,bne_self_eq_false]
               refine ⟨fun hb70 => ?_,fun hb70 => ?_⟩
               ·refine WC_seqR (fun N71 hN71 hD71 => ?_)
                simp only [sS,↓sT,Nat.reduceLT,Nat.reduceEqDiff,↓sO,↓WOps_g,sG,opV,loudV,cellsOf,strOp,evL,Nat.reduceAdd,Int.reduceBEq,Int.reduceBNe,fS49,ti4,ti9,ti38,ti2,sR0,opCells,List.all_cons,List.all_nil,Bool.and_self,gt_iff_lt,lenD,hg3_4,hg3_9,hg3_21,hg3_26,hg3_32,hb50,hb54,hb58,hb62,hg65_4,hg65_9,hg65_16,hg65_21,hb66,hb70]
                refine stepB_T (fun hg71_3 => ?_) (fun hg71_3 => ?_)
                ·simp only [sS,↓sT,Nat.reduceLT,Nat.reduceEqDiff,↓sO,↓WOps_g,sG,opV,loudV,cellsOf,strOp,evL,Nat.reduceAdd,Int.reduceBEq,Int.reduceBNe,fS49,ti4,ti9,ti38,ti2,sR0,opCells,List.all_cons,List.all_nil,Bool.and_self,gt_iff_lt,lenD,hg3_4,hg3_9,hg3_21,hg3_26,hg3_32,hb50,hb54,hb58,hb62,hg65_4,hg65_9,hg65_16,hg65_21,hb66,hb70,hg71_3]
                 refine stepB_T (fun hg71_8 => ?_) (fun hg71_8 => ?_)
                 ·simp only [sS,↓sT,Nat.reduceLT,Nat.reduceEqDiff,↓sO,↓WOps_g,sG,opV,loudV,cellsOf,strOp,evL,Nat.reduceAdd,Int.reduceBEq,Int.reduceBNe,fS49,ti4,ti9,ti38,ti2,sR0,opCells,List.all_cons,List.all_nil,Bool.and_self,gt_iff_lt,lenD,hg3_4,hg3_9,hg3_21,hg3_26,hg3_32,hb50,hb54,hb58,hb62,hg65_4,hg65_9,hg65_16,hg65_21,hb66,hb70,hg71_3,hg71_8]
                  refine stepB_T (fun hg71_14 => ?_) (fun hg71_14 => ?_)
                  ·simp only [sS,↓sT,Nat.reduceLT,Nat.reduceEqDiff,↓sO,↓WOps_g,sG,opV,loudV,cellsOf,strOp,evL,Nat.reduceAdd,Int.reduceBEq,Int.reduceBNe,fS49,ti4,ti9,ti38,ti2,sR0,opCells,List.all_cons,List.all_nil,Bool.and_self,gt_iff_lt,lenD,hg3_4,hg3_9,hg3_21,hg3_26,hg3_32,hb50,hb54,hb58,hb62,hg65_4,hg65_9,hg65_16,hg65_21,hb66,hb70,hg71_3,hg71_8,hg71_14]
                   refine stepB_T (fun hg71_19 => ?_) (fun hg71_19 => ?_)
                   ·simp only [sS,↓sT,Nat.reduceLT,Nat.reduceEqDiff,↓sO,↓WOps_g,sG,opV,loudV,cellsOf,strOp,evL,Nat.reduceAdd,Int.reduceBEq,Int.reduceBNe,fS49,ti4,ti9,ti38,ti2,sR0,opCells,List.all_cons,List.all_nil,Bool.and_self,gt_iff_lt,lenD,hg3_4,hg3_9,hg3_21,hg3_26,hg3_32,hb50,hb54,hb58,hb62,hg65_4,hg65_9,hg65_16,hg65_21,hb66,hb70,hg71_3,hg71_8,hg71_14,hg71_19]
                    refine hN71 _ ?_; try clear hN71 hD71 N71
                    refine WC_ret ?_; (try simp only [Exit.after,Exit.out]); refine Kend_ret (by simp only [resOf,resL,resV,mkS_get,slots_get,cellsOf,if_true,sS,↓sT,Nat.reduceLT,Nat.reduceEqDiff]; rfl) (by first | rfl | (simp only [if_true]; done) | (simp only [if_true,okV,ok1,okC,okP,List.all_cons,List.all_nil,Bool.and_true]; done)) ?_
                    clear hN68 hD68 N68
                    first | (rw [keep_bool,rightR]; simp_all [isNil,OpS.dropsL]; done) | (rw [keep_bool,rightR]; simp_all [isNil,OpS.dropsL]; omega)
                   ·simp only [sS,↓sT,Nat.reduceLT,Nat.reduceEqDiff,↓sO,↓WOps_g,sG,opV,loudV,cellsOf,strOp,evL,Nat.reduceAdd,Int.reduceBEq,Int.reduceBNe,fS49,ti4,ti9,ti38,ti2,sR0,opCells,List.all_cons,List.all_nil,Bool.and_self,gt_iff_lt,lenD,hg3_4,hg3_9,hg3_21,hg3_26,hg3_32,hb50,hb54,hb58,hb62,hg65_4,hg65_9,hg65_16,hg65_21,hb66,hb70,hg71_3,hg71_8,hg71_14,hg71_19]
                    refine hN71 _ ?_; try clear hN71 hD71 N71
                    refine WC_ret ?_; (try simp only [Exit.after,Exit.out]); refine Kend_ret (by simp only [resOf,resL,resV,mkS_get,slots_get,cellsOf,if_true,sS,↓sT,Nat.reduceLT,Nat.reduceEqDiff]; rfl) (by first | rfl | (simp only [if_true]; done) | (simp only [if_true,okV,ok1,okC,okP,List.all_cons,List.all_nil,Bool.and_true]; done)) ?_
                    clear hN68 hD68 N68
                    first | (rw [keep_bool,rightR]; simp_all [isNil,OpS.dropsL]; done) | (rw [keep_bool,rightR]; simp_all [isNil,OpS.dropsL]; omega)
                  ·simp only [sS,↓sT,Nat.reduceLT,Nat.reduceEqDiff,↓sO,↓WOps_g,sG,opV,loudV,cellsOf,strOp,evL,Nat.reduceAdd,Int.reduceBEq,Int.reduceBNe,fS49,ti4,ti9,ti38,ti2,sR0,opCells,List.all_cons,List.all_nil,Bool.and_self,gt_iff_lt,lenD,hg3_4,hg3_9,hg3_21,hg3_26,hg3_32,hb50,hb54,hb58,hb62,hg65_4,hg65_9,hg65_16,hg65_21,hb66,hb70,hg71_3,hg71_8,hg71_14]
                   refine hN71 _ ?_; try clear hN71 hD71 N71
                   refine WC_ret ?_; (try simp only [Exit.after,Exit.out]); refine Kend_ret (by simp only [resOf,resL,resV,mkS_get,slots_get,cellsOf,if_true,sS,↓sT,Nat.reduceLT,Nat.reduceEqDiff]; rfl) (by first | rfl | (simp only [if_true]; done) | (simp only [if_true,okV,ok1,okC,okP,List.all_cons,List.all_nil,Bool.and_true]; done)) ?_
                   clear hN68 hD68 N68
                   first | (rw [keep_bool,rightR]; simp_all [isNil,OpS.dropsL]; done) | (rw [keep_bool,rightR]; simp_all [isNil,OpS.dropsL]; omega)
                 ·simp only [sS,↓sT,Nat.reduceLT,Nat.reduceEqDiff,↓sO,↓WOps_g,sG,opV,loudV,cellsOf,strOp,evL,Nat.reduceAdd,Int.reduceBEq,Int.reduceBNe,fS49,ti4,ti9,ti38,ti2,sR0,opCells,List.all_cons,List.all_nil,Bool.and_self,gt_iff_lt,lenD,hg3_4,hg3_9,hg3_21,hg3_26,hg3_32,hb50,hb54,hb58,hb62,hg65_4,hg65_9,hg65_16,hg65_21,hb66,hb70,hg71_3,hg71_8]
                  refine hN71 _ ?_; try clear hN71 hD71 N71
                  refine WC_ret ?_; (try simp only [Exit.after,Exit.out]); refine Kend_ret (by simp only [resOf,resL,resV,mkS_get,slots_get,cellsOf,if_true,sS,↓sT,Nat.reduceLT,Nat.reduceEqDiff]; rfl) (by first | rfl | (simp only [if_true]; done) | (simp only [if_true,okV,ok1,okC,okP,List.all_cons,List.all_nil,Bool.and_true]; done)) ?_
                  clear hN68 hD68 N68
                  first | (rw [keep_bool,rightR]; simp_all [isNil,OpS.dropsL]; done) | (rw [keep_bool,rightR]; simp_all [isNil,OpS.dropsL]; omega)
                ·simp only [sS,↓sT,Nat.reduceLT,Nat.reduceEqDiff,↓sO,↓WOps_g,sG,opV,loudV,cellsOf,strOp,evL,Nat.reduceAdd,Int.reduceBEq,Int.reduceBNe,fS49,ti4,ti9,ti38,ti2,sR0,opCells,List.all_cons,List.all_nil,Bool.and_self,gt_iff_lt,lenD,hg3_4,hg3_9,hg3_21,hg3_26,hg3_32,hb50,hb54,hb58,hb62,hg65_4,hg65_9,hg65_16,hg65_21,hb66,hb70,hg71_3]
                 refine hN71 _ ?_; try clear hN71 hD71 N71
                 refine WC_ret ?_; (try simp only [Exit.after,Exit.out]); refine Kend_ret (by simp only [resOf,resL,resV,mkS_get,slots_get,cellsOf,if_true,sS,↓sT,Nat.reduceLT,Nat.reduceEqDiff]; rfl) (by first | rfl | (simp only [if_true]; done) | (simp only [if_true,okV,ok1,okC,okP,List.all_cons,List.all_nil,Bool.and_true]; done)) ?_
                 clear hN68 hD68 N68
                 first | (rw [keep_bool,rightR]; simp_all [isNil,OpS.dropsL]; done) | (rw [keep_bool,rightR]; simp_all [isNil,OpS.dropsL]; omega)
               ·refine WC_skip ?_
                refine hN68 _ ?_; try clear hN68 hD68 N68
                refine WC_seqR (fun N72 hN72 hD72 => ?_)
                simp only [sS,↓sT,Nat.reduceLT,Nat.reduceEqDiff,↓sO,↓WOps_g,sG,opV,loudV,cellsOf,strOp,evL,Nat.reduceAdd,Int.reduceBEq,Int.reduceBNe,fS49,ti3,ti2,ti4,ti9,sR0,opCells,List.all_cons,List.all_nil,Bool.and_self,gt_iff_lt,lenD,hg3_4,hg3_9,hg3_21,hg3_26,hg3_32,hb50,hb54,hb58,hb62,hg65_4,hg65_9,hg65_16,hg65_21,hb66,hb70]
                refine stepB_T (fun hg72_3 => ?_) (fun hg72_3 => ?_)
                ·simp only [sS,↓sT,Nat.reduceLT,Nat.reduceEqDiff,↓sO,↓WOps_g,sG,opV,loudV,cellsOf,strOp,evL,Nat.reduceAdd,Int.reduceBEq,Int.reduceBNe,fS49,ti3,ti2,ti4,ti9,sR0,opCells,List.all_cons,List.all_nil,Bool.and_self,gt_iff_lt,lenD,hg3_4,hg3_9,hg3_21,hg3_26,hg3_32,hb50,hb54,hb58,hb62,hg65_4,hg65_9,hg65_16,hg65_21,hb66,hb70,hg72_3]
                 refine stepB_T (fun hg72_8 => ?_) (fun hg72_8 => ?_)
                 ·simp only [sS,↓sT,Nat.reduceLT,Nat.reduceEqDiff,↓sO,↓WOps_g,sG,opV,loudV,cellsOf,strOp,evL,Nat.reduceAdd,Int.reduceBEq,Int.reduceBNe,fS49,ti3,ti2,ti4,ti9,sR0,opCells,List.all_cons,List.all_nil,Bool.and_self,gt_iff_lt,lenD,hg3_4,hg3_9,hg3_21,hg3_26,hg3_32,hb50,hb54,hb58,hb62,hg65_4,hg65_9,hg65_16,hg65_21,hb66,hb70,hg72_3,hg72_8]
                  refine stepB_T (fun hg72_11 => ?_) (fun hg72_11 => ?_)
                  ·simp only [sS,↓sT,Nat.reduceLT,Nat.reduceEqDiff,↓sO,↓WOps_g,sG,opV,loudV,cellsOf,strOp,evL,Nat.reduceAdd,Int.reduceBEq,Int.reduceBNe,fS49,ti3,ti2,ti4,ti9,sR0,opCells,List.all_cons,List.all_nil,Bool.and_self,gt_iff_lt,lenD,hg3_4,hg3_9,hg3_21,hg3_26,hg3_32,hb50,hb54,hb58,hb62,hg65_4,hg65_9,hg65_16,hg65_21,hb66,hb70,hg72_3,hg72_8,hg72_11]
                   refine stepB_F (fun hg72_17 => ?_) (fun hg72_17 => ?_)
                   ·simp only [sS,↓sT,Nat.reduceLT,Nat.reduceEqDiff,↓sO,↓WOps_g,sG,opV,loudV,cellsOf,strOp,evL,Nat.reduceAdd,Int.reduceBEq,Int.reduceBNe,fS49,ti3,ti2,ti4,ti9,sR0,opCells,List.all_cons,List.all_nil,Bool.and_self,gt_iff_lt,lenD,hg3_4,hg3_9,hg3_21,hg3_26,hg3_32,hb50,hb54,hb58,hb62,hg65_4,hg65_9,hg65_16,hg65_21,hb66,hb70,hg72_3,hg72_8,hg72_11,hg72_17]
                    refine hN72 _ ?_; try clear hN72 hD72 N72
                    refine WC_ret ?_; (try simp only [Exit.after,Exit.out]); refine Kend_ret (by simp only [resOf,resL,resV,mkS_get,slots_get,cellsOf,if_true,sS,↓sT,Nat.reduceLT,Nat.reduceEqDiff]; rfl) (by first | rfl | (simp only [if_true]; done) | (simp only [if_true,okV,ok1,okC,okP,List.all_cons,List.all_nil,Bool.and_true]; done)) ?_
                    first | (rw [keep_bool,rightR]; simp_all [isNil,OpS.dropsL]; done) | (rw [keep_bool,rightR]; simp_all [isNil,OpS.dropsL]; omega)
                   ·simp only [sS,↓sT,Nat.reduceLT,Nat.reduceEqDiff,↓sO,↓WOps_g,sG,opV,loudV,cellsOf,strOp,evL,Nat.reduceAdd,Int.reduceBEq,Int.reduceBNe,fS49,ti3,ti2,ti4,ti9,sR0,opCells,List.all_cons,List.all_nil,Bool.and_self,gt_iff_lt,lenD,hg3_4,hg3_9,hg3_21,hg3_26,hg3_32,hb50,hb54,hb58,hb62,hg65_4,hg65_9,hg65_16,hg65_21,hb66,hb70,hg72_3,hg72_8,hg72_11,hg72_17]
                    refine hN72 _ ?_; try clear hN72 hD72 N72
                    refine WC_ret ?_; (try simp only [Exit.after,Exit.out]); refine Kend_ret (by simp only [resOf,resL,resV,mkS_get,slots_get,cellsOf,if_true,sS,↓sT,Nat.reduceLT,Nat.reduceEqDiff]; rfl) (by first | rfl | (simp only [if_true]; done) | (simp only [if_true,okV,ok1,okC,okP,List.all_cons,List.all_nil,Bool.and_true]; done)) ?_
                    first | (rw [keep_bool,rightR]; simp_all [isNil,OpS.dropsL]; done) | (rw [keep_bool,rightR]; simp_all [isNil,OpS.dropsL]; omega)
                  ·simp only [sS,↓sT,Nat.reduceLT,Nat.reduceEqDiff,↓sO,↓WOps_g,sG,opV,loudV,cellsOf,strOp,evL,Nat.reduceAdd,Int.reduceBEq,Int.reduceBNe,fS49,ti3,ti2,ti4,ti9,sR0,opCells,List.all_cons,List.all_nil,Bool.and_self,gt_iff_lt,lenD,hg3_4,hg3_9,hg3_21,hg3_26,hg3_32,hb50,hb54,hb58,hb62,hg65_4,hg65_9,hg65_16,hg65_21,hb66,hb70,hg72_3,hg72_8,hg72_11]
                   refine hN72 _ ?_; try clear hN72 hD72 N72
                   refine WC_ret ?_; (try simp only [Exit.after,Exit.out]); refine Kend_ret (by simp only [resOf,resL,resV,mkS_get,slots_get,cellsOf,if_true,sS,↓sT,Nat.reduceLT,Nat.reduceEqDiff]; rfl) (by first | rfl | (simp only [if_true]; done) | (simp only [if_true,okV,ok1,okC,okP,List.all_cons,List.all_nil,Bool.and_true]; done)) ?_
                   first | (rw [keep_bool,rightR]; simp_all [isNil,OpS.dropsL]; done) | (rw [keep_bool,rightR]; simp_all [isNil,OpS.dropsL]; omega)
                 ·simp only [sS,↓sT,Nat.reduceLT,Nat.reduceEqDiff,↓sO,↓WOps_g,sG,opV,loudV,cellsOf,strOp,evL,Nat.reduceAdd,Int.reduceBEq,Int.reduceBNe,fS49,ti3,ti2,ti4,ti9,sR0,opCells,List.all_cons,List.all_nil,Bool.and_self,gt_iff_lt,lenD,hg3_4,hg3_9,hg3_21,hg3_26,hg3_32,hb50,hb54,hb58,hb62,hg65_4,hg65_9,hg65_16,hg65_21,hb66,hb70,hg72_3,hg72_8]
                  refine hN72 _ ?_; try clear hN72 hD72 N72
                  refine WC_ret ?_; (try simp only [Exit.after,Exit.out]); refine Kend_ret (by simp only [resOf,resL,resV,mkS_get,slots_get,cellsOf,if_true,sS,↓sT,Nat.reduceLT,Nat.reduceEqDiff]; rfl) (by first | rfl | (simp only [if_true]; done) | (simp only [if_true,okV,ok1,okC,okP,List.all_cons,List.all_nil,Bool.and_true]; done)) ?_
                  first | (rw [keep_bool,rightR]; simp_all [isNil,OpS.dropsL]; done) | (rw [keep_bool,rightR]; simp_all [isNil,OpS.dropsL]; omega)
                ·simp only [sS,↓sT,Nat.reduceLT,Nat.reduceEqDiff,↓sO,↓WOps_g,sG,opV,loudV,cellsOf,strOp,evL,Nat.reduceAdd,Int.reduceBEq,Int.reduceBNe,fS49,ti3,ti2,ti4,ti9,sR0,opCells,List.all_cons,List.all_nil,Bool.and_self,gt_iff_lt,lenD,hg3_4,hg3_9,hg3_21,hg3_26,hg3_32,hb50,hb54,hb58,hb62,hg65_4,hg65_9,hg65_16,hg65_21,hb66,hb70,hg72_3]
                 refine hN72 _ ?_; try clear hN72 hD72 N72
                 refine WC_ret ?_; (try simp only [Exit.after,Exit.out]); refine Kend_ret (by simp only [resOf,resL,resV,mkS_get,slots_get,cellsOf,if_true,sS,↓sT,Nat.reduceLT,Nat.reduceEqDiff]; rfl) (by first | rfl | (simp only [if_true]; done) | (simp only [if_true,okV,ok1,okC,okP,List.all_cons,List.all_nil,Bool.and_true]; done)) ?_
                 first | (rw [keep_bool,rightR]; simp_all [isNil,OpS.dropsL]; done) | (rw [keep_bool,rightR]; simp_all [isNil,OpS.dropsL]; omega)
             ·simp only [sS,↓sT,Nat.reduceLT,Nat.reduceEqDiff,↓sO,↓WOps_g,sG,opV,loudV,cellsOf,strOp,evL,Nat.reduceAdd,Int.reduceBEq,Int.reduceBNe,fS49,ti47,fS47,ti3,ti9,sR0,opCells,List.all_cons,List.all_nil,Bool.and_self,gt_iff_lt,lenD,hg3_4,hg3_9,hg3_21,hg3_26,hg3_32,hb50,hb54,hb58,hb62,hg65_4,hg65_9,hg65_16,hg65_21]
              refine hN65 _ ?_; try clear hN65 hD65 N65
              refine WC_condE ?_
              simp only [sS,↓sT,Nat.reduceLT,Nat.reduceEqDiff,↓stepC_bool,hg3_4,hg3_9,hg3_21,hg3_26,hg3_32,hb50,hb54,hb58,hb62,hg65_4,hg65_9,hg65_16,hg65_21,Int.reduceBEq,Int.reduceBNe,beq_self_eq_true,bne_self_eq_false]
              refine ⟨fun hb => (by cases hb),fun hb => ?_⟩
              refine WC_skip ?_
              refine hN64 _ ?_; try clear hN64 hD64 N64
              refine WC_seqN (fun N73 hN73 hD73 => ?_)
              refine WC_seqR (fun N74 hN74 hD74 => ?_)
              simp only [sS,↓sT,Nat.reduceLT,Nat.reduceEqDiff,↓sO,↓WOps_g,sG,opV,loudV,cellsOf,strOp,evL,Nat.reduceAdd,Int.reduceBEq,Int.reduceBNe,fS49,ti3,sR0,opCells,List.all_cons,List.all_nil,Bool.and_self,gt_iff_lt,lenD,hg3_4,hg3_9,hg3_21,hg3_26,hg3_32,hb50,hb54,hb58,hb62,hg65_4,hg65_9,hg65_16,hg65_21]
              refine hN74 _ ?_; try clear hN74 hD74 N74
              refine WC_condE ?_
              simp only [sS,↓sT,Nat.reduceLT,Nat.reduceEqDiff,↓stepC_bool,hg3_4,hg3_9,hg3_21,hg3_26,hg3_32,hb50,hb54,hb58,hb62,hg65_4,hg65_9,hg65_16,hg65_21,Int.reduceBEq,Int.reduceBNe,beq_self_eq_true,bne_self_eq_false]
              refine ⟨fun hb75 => ?_,fun hb75 => ?_⟩
              ·refine WC_seqR (fun N76 hN76 hD76 => ?_)
               simp only [sS,↓sT,Nat.reduceLT,Nat.reduceEqDiff,↓sO,↓WOps_g,sG,opV,loudV,cellsOf,strOp,evL,Nat.reduceAdd,Int.reduceBEq,Int.reduceBNe,fS49,ti4,ti9,ti38,ti2,sR0,opCells,List.all_cons,List.all_nil,Bool.and_self,gt_iff_lt,lenD,hg3_4,hg3_9,hg3_21,hg3_26,hg3_32,hb50,hb54,hb58,hb62,hg65_4,hg65_9,hg65_16,hg65_21,hb75]
               refine stepB_T (fun hg76_3 => ?_) (fun hg76_3 => ?_)
               ·simp only [sS,↓sT,Nat.reduceLT,Nat.reduceEqDiff,↓sO,↓WOps_g,sG,opV,loudV,cellsOf,strOp,evL,Nat.reduceAdd,Int.reduceBEq,Int.reduceBNe,fS49,ti4,ti9,ti38,ti2,sR0,opCells,List.all_cons,List.all_nil,Bool.and_self,gt_iff_lt,lenD,hg3_4,hg3_9,hg3_21,hg3_26,hg3_32,hb50,hb54,hb58,hb62,hg65_4,hg65_9,hg65_16,hg65_21,hb75,hg76_3]
                refine stepB_T (fun hg76_8 => ?_) (fun hg76_8 => ?_)
                ·simp only [sS,↓sT,Nat.reduceLT,Nat.reduceEqDiff,↓sO,↓WOps_g,sG,opV,loudV,cellsOf,strOp,evL,Nat.reduceAdd,Int.reduceBEq,Int.reduceBNe,fS49,ti4,ti9,ti38,ti2,sR0,opCells,List.all_cons,List.all_nil,Bool.and_self,gt_iff_lt,lenD,hg3_4,hg3_9,hg3_21,hg3_26,hg3_32,hb50,hb54,hb58,hb62,hg65_4,hg65_9,hg65_16,hg65_21,hb75,hg76_3,hg76_8]
                 refine stepB_T (fun hg76_14 => ?_) (fun hg76_14 => ?_)
                 ·simp only [sS,↓sT,Nat.reduceLT,Nat.reduceEqDiff,↓sO,↓WOps_g,sG,opV,loudV,cellsOf,strOp,evL,Nat.reduceAdd,Int.reduceBEq,Int.reduceBNe,fS49,ti4,ti9,ti38,ti2,sR0,opCells,List.all_cons,List.all_nil,Bool.and_self,gt_iff_lt,lenD,hg3_4,hg3_9,hg3_21,hg3_26,hg3_32,hb50,hb54,hb58,hb62,hg65_4,hg65_9,hg65_16,hg65_21,hb75,hg76_3,hg76_8,hg76_14]
                  refine stepB_T (fun hg76_19 => ?_) (fun hg76_19 => ?_)
                  ·simp only [sS,↓sT,Nat.reduceLT,Nat.reduceEqDiff,↓sO,↓WOps_g,sG,opV,loudV,cellsOf,strOp,evL,Nat.reduceAdd,Int.reduceBEq,Int.reduceBNe,fS49,ti4,ti9,ti38,ti2,sR0,opCells,List.all_cons,List.all_nil,Bool.and_self,gt_iff_lt,lenD,hg3_4,hg3_9,hg3_21,hg3_26,hg3_32,hb50,hb54,hb58,hb62,hg65_4,hg65_9,hg65_16,hg65_21,hb75,hg76_3,hg76_8,hg76_14,hg76_19]
                   refine hN76 _ ?_; try clear hN76 hD76 N76
                   refine WC_ret ?_; (try simp only [Exit.after,Exit.out]); refine Kend_ret (by simp only [resOf,resL,resV,mkS_get,slots_get,cellsOf,if_true,sS,↓sT,Nat.reduceLT,Nat.reduceEqDiff]; rfl) (by first | rfl | (simp only [if_true]; done) | (simp only [if_true,okV,ok1,okC,okP,List.all_cons,List.all_nil,Bool.and_true]; done)) ?_
                   clear hN73 hD73 N73
                   first | (rw [keep_bool,rightR]; simp_all [isNil,OpS.dropsL]; done) | (rw [keep_bool,rightR]; simp_all [isNil,OpS.dropsL]; omega)
                  ·simp only [sS,↓sT,Nat.reduceLT,Nat.reduceEqDiff,↓sO,↓WOps_g,sG,opV,loudV,cellsOf,strOp,evL,Nat.reduceAdd,Int.reduceBEq,Int.reduceBNe,fS49,ti4,ti9,ti38,ti2,sR0,opCells,List.all_cons,List.all_nil,Bool.and_self,gt_iff_lt,lenD,hg3_4,hg3_9,hg3_21,hg3_26,hg3_32,hb50,hb54,hb58,hb62,hg65_4,hg65_9,hg65_16,hg65_21,hb75,hg76_3,hg76_8,hg76_14,hg76_19]
                   refine hN76 _ ?_; try clear hN76 hD76 N76
                   refine WC_ret ?_; (try simp only [Exit.after,Exit.out]); refine Kend_ret (by simp only [resOf,resL,resV,mkS_get,slots_get,cellsOf,if_true,sS,↓sT,Nat.reduceLT,Nat.reduceEqDiff]; rfl) (by first | rfl | (simp only [if_true]; done) | (simp only [if_true,okV,ok1,okC,okP,List.all_cons,List.all_nil,Bool.and_true]; done)) ?_
                   clear hN73 hD73 N73
                   first | (rw [keep_bool,rightR]; simp_all [isNil,OpS.dropsL]; done) | (rw [keep_bool,rightR]; simp_all [isNil,OpS.dropsL]; omega)
                 ·simp only [sS,↓sT,Nat.reduceLT,Nat.reduceEqDiff,↓sO,↓WOps_g,sG,opV,loudV,cellsOf,strOp,evL,Nat.reduceAdd,Int.reduceBEq,Int.reduceBNe,fS49,ti4,ti9,ti38,ti2,sR0,opCells,List.all_cons,List.all_nil,Bool.and_self,gt_iff_lt,lenD,hg3_4,hg3_9,hg3_21,hg3_26,hg3_32,hb50,hb54,hb58,hb62,hg65_4,hg65_9,hg65_16,hg65_21,hb75,hg76_3,hg76_8,hg76_14]
                  refine hN76 _ ?_; try clear hN76 hD76 N76
                  refine WC_ret ?_; (try simp only [Exit.after,Exit.out]); refine Kend_ret (by simp only [resOf,resL,resV,mkS_get,slots_get,cellsOf,if_true,sS,↓sT,Nat.reduceLT,Nat.reduceEqDiff]; rfl) (by first | rfl | (simp only [if_true]; done) | (simp only [if_true,okV,ok1,okC,okP,List.all_cons,List.all_nil,Bool.and_true]; done)) ?_
                  clear hN73 hD73 N73
                  first | (rw [keep_bool,rightR]; simp_all [isNil,OpS.dropsL]; done) | (rw [keep_bool,rightR]; simp_all [isNil,OpS.dropsL]; omega)
                ·simp only [sS,↓sT,Nat.reduceLT,Nat.reduceEqDiff,↓sO,↓WOps_g,sG,opV,loudV,cellsOf,strOp,evL,Nat.reduceAdd,Int.reduceBEq,Int.reduceBNe,fS49,ti4,ti9,ti38,ti2,sR0,opCells,List.all_cons,List.all_nil,Bool.and_self,gt_iff_lt,lenD,hg3_4,hg3_9,hg3_21,hg3_26,hg3_32,hb50,hb54,hb58,hb62,hg65_4,hg65_9,hg65_16,hg65_21,hb75,hg76_3,hg76_8]
                 refine hN76 _ ?_; try clear hN76 hD76 N76
                 refine WC_ret ?_; (try simp only [Exit.after,Exit.out]); refine Kend_ret (by simp only [resOf,resL,resV,mkS_get,slots_get,cellsOf,if_true,sS,↓sT,Nat.reduceLT,Nat.reduceEqDiff]; rfl) (by first | rfl | (simp only [if_true]; done) | (simp only [if_true,okV,ok1,okC,okP,List.all_cons,List.all_nil,Bool.and_true]; done)) ?_
                 clear hN73 hD73 N73
                 first | (rw [keep_bool,rightR]; simp_all [isNil,OpS.dropsL]; done) | (rw [keep_bool,rightR]; simp_all [isNil,OpS.dropsL]; omega)
               ·simp only [sS,↓sT,Nat.reduceLT,Nat.reduceEqDiff,↓sO,↓WOps_g,sG,opV,loudV,cellsOf,strOp,evL,Nat.reduceAdd,Int.reduceBEq,Int.reduceBNe,fS49,ti4,ti9,ti38,ti2,sR0,opCells,List.all_cons,List.all_nil,Bool.and_self,gt_iff_lt,lenD,hg3_4,hg3_9,hg3_21,hg3_26,hg3_32,hb50,hb54,hb58,hb62,hg65_4,hg65_9,hg65_16,hg65_21,hb75,hg76_3]
                refine hN76 _ ?_; try clear hN76 hD76 N76
                refine WC_ret ?_; (try simp only [Exit.after,Exit.out]); refine Kend_ret (by simp only [resOf,resL,resV,mkS_get,slots_get,cellsOf,if_true,sS,↓sT,Nat.reduceLT,Nat.reduceEqDiff]; rfl) (by first | rfl | (simp only [if_true]; done) | (simp only [if_true,okV,ok1,okC,okP,List.all_cons,List.all_nil,Bool.and_true]; done)) ?_
                clear hN73 hD73 N73
                first | (rw [keep_bool,rightR]; simp_all [isNil,OpS.dropsL]; done) | (rw [keep_bool,rightR]; simp_all [isNil,OpS.dropsL]; omega)
              ·refine WC_skip ?_
               refine hN73 _ ?_; try clear hN73 hD73 N73
               refine WC_seqR (fun N77 hN77 hD77 => ?_)
               simp only [sS,↓sT,Nat.reduceLT,Nat.reduceEqDiff,↓sO,↓WOps_g,sG,opV,loudV,cellsOf,strOp,evL,Nat.reduceAdd,Int.reduceBEq,Int.reduceBNe,fS49,ti3,ti2,ti4,ti9,sR0,opCells,List.all_cons,List.all_nil,Bool.and_self,gt_iff_lt,lenD,hg3_4,hg3_9,hg3_21,hg3_26,hg3_32,hb50,hb54,hb58,hb62,hg65_4,hg65_9,hg65_16,hg65_21,hb75]
               refine stepB_T (fun hg77_3 => ?_) (fun hg77_3 => ?_)
               ·simp only [sS,↓sT,Nat.reduceLT,Nat.reduceEqDiff,↓sO,↓WOps_g,sG,opV,loudV,cellsOf,strOp,evL,Nat.reduceAdd,Int.reduceBEq,Int.reduceBNe,fS49,ti3,ti2,ti4,ti9,sR0,opCells,List.all_cons,List.all_nil,Bool.and_self,gt_iff_lt,lenD,hg3_4,hg3_9,hg3_21,hg3_26,hg3_32,hb50,hb54,hb58,hb62,hg65_4,hg65_9,hg65_16,hg65_21,hb75,hg77_3]
                refine stepB_T (fun hg77_8 => ?_) (fun hg77_8 => ?_)
                ·simp only [sS,↓sT,Nat.reduceLT,Nat.reduceEqDiff,↓sO,↓WOps_g,sG,opV,loudV,cellsOf,strOp,evL,Nat.reduceAdd,Int.reduceBEq,Int.reduceBNe,fS49,ti3,ti2,ti4,ti9,sR0,opCells,List.all_cons,List.all_nil,Bool.and_self,gt_iff_lt,lenD,hg3_4,hg3_9,hg3_21,hg3_26,hg3_32,hb50,hb54,hb58,hb62,hg65_4,hg65_9,hg65_16,hg65_21,hb75,hg77_3,hg77_8]
                 refine stepB_T (fun hg77_11 => ?_) (fun hg77_11 => ?_)
                 ·simp only [sS,↓sT,Nat.reduceLT,Nat.reduceEqDiff,↓sO,↓WOps_g,sG,opV,loudV,cellsOf,strOp,evL,Nat.reduceAdd,Int.reduceBEq,Int.reduceBNe,fS49,ti3,ti2,ti4,ti9,sR0,opCells,List.all_cons,List.all_nil,Bool.and_self,gt_iff_lt,lenD,hg3_4,hg3_9,hg3_21,hg3_26,hg3_32,hb50,hb54,hb58,hb62,hg65_4,hg65_9,hg65_16,hg65_21,hb75,hg77_3,hg77_8,hg77_11]
                  refine stepB_F (fun hg77_17 => ?_) (fun hg77_17 => ?_)
                  ·simp only [sS,↓sT,Nat.reduceLT,Nat.reduceEqDiff,↓sO,↓WOps_g,sG,opV,loudV,cellsOf,strOp,evL,Nat.reduceAdd,Int.reduceBEq,Int.reduceBNe,fS49,ti3,ti2,ti4,ti9,sR0,opCells,List.all_cons,List.all_nil,Bool.and_self,gt_iff_lt,lenD,hg3_4,hg3_9,hg3_21,hg3_26,hg3_32,hb50,hb54,hb58,hb62,hg65_4,hg65_9,hg65_16,hg65_21,hb75,hg77_3,hg77_8,hg77_11,hg77_17]
                   refine hN77 _ ?_; try clear hN77 hD77 N77
                   refine WC_ret ?_; (try simp only [Exit.after,Exit.out]); refine Kend_ret (by simp only [resOf,resL,resV,mkS_get,slots_get,cellsOf,if_true,sS,↓sT,Nat.reduceLT,Nat.reduceEqDiff]; rfl) (by first | rfl | (simp only [if_true]; done) | (simp only [if_true,okV,ok1,okC,okP,List.all_cons,List.all_nil,Bool.and_true]; done)) ?_
                   first | (rw [keep_bool,rightR]; simp_all [isNil,OpS.dropsL]; done) | (rw [keep_bool,rightR]; simp_all [isNil,OpS.dropsL]; omega)
                  ·simp only [sS,↓sT,Nat.reduceLT,Nat.reduceEqDiff,↓sO,↓WOps_g,sG,opV,loudV,cellsOf,strOp,evL,Nat.reduceAdd,Int.reduceBEq,Int.reduceBNe,fS49,ti3,ti2,ti4,ti9,sR0,opCells,List.all_cons,List.all_nil,Bool.and_self,gt_iff_lt,lenD,hg3_4,hg3_9,hg3_21,hg3_26,hg3_32,hb50,hb54,hb58,hb62,hg65_4,hg65_9,hg65_16,hg65_21,hb75,hg77_3,hg77_8,hg77_11,hg77_17]
                   refine hN77 _ ?_; try clear hN77 hD77 N77
                   refine WC_ret ?_; (try simp only [Exit.after,Exit.out]); refine Kend_ret (by simp only [resOf,resL,resV,mkS_get,slots_get,cellsOf,if_true,sS,↓sT,Nat.reduceLT,Nat.reduceEqDiff]; rfl) (by first | rfl | (simp only [if_true]; done) | (simp only [if_true,okV,ok1,okC,okP,List.all_cons,List.all_nil,Bool.and_true]; done)) ?_
                   first | (rw [keep_bool,rightR]; simp_all [isNil,OpS.dropsL]; done) | (rw [keep_bool,rightR]; simp_all [isNil,OpS.dropsL]; omega)
                 ·simp only [sS,↓sT,Nat.reduceLT,Nat.reduceEqDiff,↓sO,↓WOps_g,sG,opV,loudV,cellsOf,strOp,evL,Nat.reduceAdd,Int.reduceBEq,Int.reduceBNe,fS49,ti3,ti2,ti4,ti9,sR0,opCells,List.all_cons,List.all_nil,Bool.and_self,gt_iff_lt,lenD,hg3_4,hg3_9,hg3_21,hg3_26,hg3_32,hb50,hb54,hb58,hb62,hg65_4,hg65_9,hg65_16,hg65_21,hb75,hg77_3,hg77_8,hg77_11]
                  refine hN77 _ ?_; try clear hN77 hD77 N77
                  refine WC_ret ?_; (try simp only [Exit.after,Exit.out]); refine Kend_ret (by simp only [resOf,resL,resV,mkS_get,slots_get,cellsOf,if_true,sS,↓sT,Nat.reduceLT,Nat.reduceEqDiff]; rfl) (by first | rfl | (simp only [if_true]; done) | (simp only [if_true,okV,ok1,okC,okP,List.all_cons,List.all_nil,Bool.and_true]; done)) ?_
                  first | (rw [keep_bool,rightR]; simp_all [isNil,OpS.dropsL]; done) | (rw [keep_bool,rightR]; simp_all [isNil,OpS.dropsL]; omega)
                ·simp only [sS,↓sT,Nat.reduceLT,Nat.reduceEqDiff,↓sO,↓WOps_g,sG,opV,loudV,cellsOf,strOp,evL,Nat.reduceAdd,Int.reduceBEq,Int.reduceBNe,fS49,ti3,ti2,ti4,ti9,sR0,opCells,List.all_cons,List.all_nil,Bool.and_self,gt_iff_lt,lenD,hg3_4,hg3_9,hg3_21,hg3_26,hg3_32,hb50,hb54,hb58,hb62,hg65_4,hg65_9,hg65_16,hg65_21,hb75,hg77_3,hg77_8]
                 refine hN77 _ ?_; try clear hN77 hD77 N77
                 refine WC_ret ?_; (try simp only [Exit.after,Exit.out]); refine Kend_ret (by simp only [resOf,resL,resV,mkS_get,slots_get,cellsOf,if_true,sS,↓sT,Nat.reduceLT,Nat.reduceEqDiff]; rfl) (by first | rfl | (simp only [if_true]; done) | (simp only [if_true,okV,ok1,okC,okP,List.all_cons,List.all_nil,Bool.and_true]; done)) ?_
                 first | (rw [keep_bool,rightR]; simp_all [isNil,OpS.dropsL]; done) | (rw [keep_bool,rightR]; simp_all [isNil,OpS.dropsL]; omega)
               ·simp only [sS,↓sT,Nat.reduceLT,Nat.reduceEqDiff,↓sO,↓WOps_g,sG,opV,loudV,cellsOf,strOp,evL,Nat.reduceAdd,Int.reduceBEq,Int.reduceBNe,fS49,ti3,ti2,ti4,ti9,sR0,opCells,List.all_cons,List.all_nil,Bool.and_self,gt_iff_lt,lenD,hg3_4,hg3_9,hg3_21,hg3_26,hg3_32,hb50,hb54,hb58,hb62,hg65_4,hg65_9,hg65_16,hg65_21,hb75,hg77_3]
                refine hN77 _ ?_; try clear hN77 hD77 N77
                refine WC_ret ?_; (try simp only [Exit.after,Exit.out]); refine Kend_ret (by simp only [resOf,resL,resV,mkS_get,slots_get,cellsOf,if_true,sS,↓sT,Nat.reduceLT,Nat.reduceEqDiff]; rfl) (by first | rfl | (simp only [if_true]; done) | (simp only [if_true,okV,ok1,okC,okP,List.all_cons,List.all_nil,Bool.and_true]; done)) ?_
                first | (rw [keep_bool,rightR]; simp_all [isNil,OpS.dropsL]; done) | (rw [keep_bool,rightR]; simp_all [isNil,OpS.dropsL]; omega)
            ·simp only [sS,↓sT,Nat.reduceLT,Nat.reduceEqDiff,↓sO,↓WOps_g,sG,opV,loudV,cellsOf,strOp,evL,Nat.reduceAdd,Int.reduceBEq,Int.reduceBNe,fS49,ti47,fS47,ti3,ti9,sR0,opCells,List.all_cons,List.all_nil,Bool.and_self,gt_iff_lt,lenD,hg3_4,hg3_9,hg3_21,hg3_26,hg3_32,hb50,hb54,hb58,hb62,hg65_4,hg65_9,hg65_16]
             refine hN65 _ ?_; try clear hN65 hD65 N65
             refine WC_condE ?_
             simp only [sS,↓sT,Nat.reduceLT,Nat.reduceEqDiff,↓stepC_bool,hg3_4,hg3_9,hg3_21,hg3_26,hg3_32,hb50,hb54,hb58,hb62,hg65_4,hg65_9,hg65_16,Int.reduceBEq,Int.reduceBNe,beq_self_eq_true,bne_self_eq_false]
             refine ⟨fun hb => ?_,fun hb => (by cases hb)⟩
             refine WC_seqR (fun N78 hN78 hD78 => ?_)
             simp only [sS,↓sT,Nat.reduceLT,Nat.reduceEqDiff,↓sO,↓WOps_g,sG,opV,loudV,cellsOf,strOp,evL,Nat.reduceAdd,Int.reduceBEq,Int.reduceBNe,sR0,opCells,List.all_cons,List.all_nil,Bool.and_self,gt_iff_lt,lenD,hg3_4,hg3_9,hg3_21,hg3_26,hg3_32,hb50,hb54,hb58,hb62,hg65_4,hg65_9,hg65_16]
             refine hN78 _ ?_; try clear hN78 hD78 N78
             refine WC_ret ?_; (try simp only [Exit.after,Exit.out]); refine Kend_ret (by simp only [resOf,resL,resV,mkS_get,slots_get,cellsOf,if_true,sS,↓sT,Nat.reduceLT,Nat.reduceEqDiff]; rfl) (by first | rfl | (simp only [if_true]; done) | (simp only [if_true,okV,ok1,okC,okP,List.all_cons,List.all_nil,Bool.and_true]; done)) ?_
             clear hN64 hD64 N64
             first | (rw [keep_bool,rightR]; simp_all [isNil,OpS.dropsL]; done) | (rw [keep_bool,rightR]; simp_all [isNil,OpS.dropsL]; omega)
           ·simp only [sS,↓sT,Nat.reduceLT,Nat.reduceEqDiff,↓sO,↓WOps_g,sG,opV,loudV,cellsOf,strOp,evL,Nat.reduceAdd,Int.reduceBEq,Int.reduceBNe,fS49,ti47,fS47,ti3,ti9,sR0,opCells,List.all_cons,List.all_nil,Bool.and_self,gt_iff_lt,lenD,hg3_4,hg3_9,hg3_21,hg3_26,hg3_32,hb50,hb54,hb58,hb62,hg65_4,hg65_9]
            refine stepB_T (fun hg65_21 => ?_) (fun hg65_21 => ?_)
            ·simp only [sS,↓sT,Nat.reduceLT,Nat.reduceEqDiff,↓sO,↓WOps_g,sG,opV,loudV,cellsOf,strOp,evL,Nat.reduceAdd,Int.reduceBEq,Int.reduceBNe,fS49,ti47,fS47,ti3,ti9,sR0,opCells,List.all_cons,List.all_nil,Bool.and_self,gt_iff_lt,lenD,hg3_4,hg3_9,hg3_21,hg3_26,hg3_32,hb50,hb54,hb58,hb62,hg65_4,hg65_9,hg65_21]
             refine hN65 _ ?_; try clear hN65 hD65 N65
             refine WC_condE ?_
             simp only [sS,↓sT,Nat.reduceLT,Nat.reduceEqDiff,↓stepC_bool,hg3_4,hg3_9,hg3_21,hg3_26,hg3_32,hb50,hb54,hb58,hb62,hg65_4,hg65_9,hg65_21,Int.reduceBEq,Int.reduceBNe,beq_self_eq_true,bne_self_eq_false]
             refine ⟨fun hb79 => ?_,fun hb79 => ?_⟩
             ·refine WC_seqR (fun N80 hN80 hD80 => ?_)
              simp only [sS,↓sT,Nat.reduceLT,Nat.reduceEqDiff,↓sO,↓WOps_g,sG,opV,loudV,cellsOf,strOp,evL,Nat.reduceAdd,Int.reduceBEq,Int.reduceBNe,sR0,opCells,List.all_cons,List.all_nil,Bool.and_self,gt_iff_lt,lenD,hg3_4,hg3_9,hg3_21,hg3_26,hg3_32,hb50,hb54,hb58,hb62,hg65_4,hg65_9,hg65_21,hb79]
              refine hN80 _ ?_; try clear hN80 hD80 N80
              refine WC_ret ?_; (try simp only [Exit.after,Exit.out]); refine Kend_ret (by simp only [resOf,resL,resV,mkS_get,slots_get,cellsOf,if_true,sS,↓sT,Nat.reduceLT,Nat.reduceEqDiff]; rfl) (by first | rfl | (simp only [if_true]; done) | (simp only [if_true,okV,ok1,okC,okP,List.all_cons,List.all_nil,Bool.and_true]; done)) ?_
              clear hN64 hD64 N64
              first | (rw [keep_bool,rightR]; simp_all [isNil,OpS.dropsL]; done) | (rw [keep_bool,rightR]; simp_all [isNil,OpS.dropsL]; omega)
             ·refine WC_skip ?_
              refine hN64 _ ?_; try clear hN64 hD64 N64
              refine WC_seqN (fun N81 hN81 hD81 => ?_)
              refine WC_seqR (fun N82 hN82 hD82 => ?_)
              simp only [sS,↓sT,Nat.reduceLT,Nat.reduceEqDiff,↓sO,↓WOps_g,sG,opV,loudV,cellsOf,strOp,evL,Nat.reduceAdd,Int.reduceBEq,Int.reduceBNe,fS49,ti3,sR0,opCells,List.all_cons,List.all_nil,Bool.and_self,gt_iff_lt,lenD,hg3_4,hg3_9,hg3_21,hg3_26,hg3_32,hb50,hb54,hb58,hb62,hg65_4,hg65_9,hg65_21,hb79]
              refine hN82 _ ?_; try clear hN82 hD82 N82
              refine WC_condE ?_
              simp only [sS,↓sT,Nat.reduceLT,Nat.reduceEqDiff,↓stepC_bool,hg3_4,hg3_9,hg3_21,hg3_26,hg3_32,hb50,hb54,hb58,hb62,hg65_4,hg65_9,hg65_21,hb79,Int.reduceBEq,Int.reduceBNe,beq_self_eq_true,bne_self_eq_false]
              refine ⟨fun hb83 => ?_,fun hb83 => ?_⟩
              ·refine WC_seqR (fun N84 hN84 hD84 => ?_)
               simp only [sS,↓sT,Nat.reduceLT,Nat.reduceEqDiff,↓sO,↓WOps_g,sG,opV,loudV,cellsOf,strOp,evL,Nat.reduceAdd,Int.reduceBEq,Int.reduceBNe,fS49,ti4,ti9,ti38,ti2,sR0,opCells,List.all_cons,List.all_nil,Bool.and_self,gt_iff_lt,lenD,hg3_4,hg3_9,hg3_21,hg3_26,hg3_32,hb50,hb54,hb58,hb62,hg65_4,hg65_9,hg65_21,hb79,hb83]
               refine stepB_T (fun hg84_3 => ?_) (fun hg84_3 => ?_)
               ·simp only [sS,↓sT,Nat.reduceLT,Nat.reduceEqDiff,↓sO,↓WOps_g,sG,opV,loudV,cellsOf,strOp,evL,Nat.reduceAdd,Int.reduceBEq,Int.reduceBNe,fS49,ti4,ti9,ti38,ti2,sR0,opCells,List.all_cons,List.all_nil,Bool.and_self,gt_iff_lt,lenD,hg3_4,hg3_9,hg3_21,hg3_26,hg3_32,hb50,hb54,hb58,hb62,hg65_4,hg65_9,hg65_21,hb79,hb83,hg84_3]
                refine stepB_T (fun hg84_8 => ?_) (fun hg84_8 => ?_)
                ·simp only [sS,↓sT,Nat.reduceLT,Nat.reduceEqDiff,↓sO,↓WOps_g,sG,opV,loudV,cellsOf,strOp,evL,Nat.reduceAdd,Int.reduceBEq,Int.reduceBNe,fS49,ti4,ti9,ti38,ti2,sR0,opCells,List.all_cons,List.all_nil,Bool.and_self,gt_iff_lt,lenD,hg3_4,hg3_9,hg3_21,hg3_26,hg3_32,hb50,hb54,hb58,hb62,hg65_4,hg65_9,hg65_21,hb79,hb83,hg84_3,hg84_8]
                 refine stepB_T (fun hg84_14 => ?_) (fun hg84_14 => ?_)
                 ·simp only [sS,↓sT,Nat.reduceLT,Nat.reduceEqDiff,↓sO,↓WOps_g,sG,opV,loudV,cellsOf,strOp,evL,Nat.reduceAdd,Int.reduceBEq,Int.reduceBNe,fS49,ti4,ti9,ti38,ti2,sR0,opCells,List.all_cons,List.all_nil,Bool.and_self,gt_iff_lt,lenD,hg3_4,hg3_9,hg3_21,hg3_26,hg3_32,hb50,hb54,hb58,hb62,hg65_4,hg65_9,hg65_21,hb79,hb83,hg84_3,hg84_8,hg84_14]
                  refine stepB_T (fun hg84_19 => ?_) (fun hg84_19 => ?_)
                  ·simp only [sS,↓sT,Nat.reduceLT,Nat.reduceEqDiff,↓sO,↓WOps_g,sG,opV,loudV,cellsOf,strOp,evL,Nat.reduceAdd,Int.reduceBEq,Int.reduceBNe,fS49,ti4,ti9,ti38,ti2,sR0,opCells,List.all_cons,List.all_nil,Bool.and_self,gt_iff_lt,lenD,hg3_4,hg3_9,hg3_21,hg3_26,hg3_32,hb50,hb54,hb58,hb62,hg65_4,hg65_9,hg65_21,hb79,hb83,hg84_3,hg84_8,hg84_14,hg84_19]
                   refine hN84 _ ?_; try clear hN84 hD84 N84
                   refine WC_ret ?_; (try simp only [Exit.after,Exit.out]); refine Kend_ret (by simp only [resOf,resL,resV,mkS_get,slots_get,cellsOf,if_true,sS,↓sT,Nat.reduceLT,Nat.reduceEqDiff]; rfl) (by first | rfl | (simp only [if_true]; done) | (simp only [if_true,okV,ok1,okC,okP,List.all_cons,List.all_nil,Bool.and_true]; done)) ?_
                   clear hN81 hD81 N81
                   first | (rw [keep_bool,rightR]; simp_all [isNil,OpS.dropsL]; done) | (rw [keep_bool,rightR]; simp_all [isNil,OpS.dropsL]; omega)
                  ·simp only [sS,↓sT,Nat.reduceLT,Nat.reduceEqDiff,↓sO,↓WOps_g,sG,opV,loudV,cellsOf,strOp,evL,Nat.reduceAdd,Int.reduceBEq,Int.reduceBNe,fS49,ti4,ti9,ti38,ti2,sR0,opCells,List.all_cons,List.all_nil,Bool.and_self,gt_iff_lt,lenD,hg3_4,hg3_9,hg3_21,hg3_26,hg3_32,hb50,hb54,hb58,hb62,hg65_4,hg65_9,hg65_21,hb79,hb83,hg84_3,hg84_8,hg84_14,hg84_19]
                   refine hN84 _ ?_; try clear hN84 hD84 N84
                   refine WC_ret ?_; (try simp only [Exit.after,Exit.out]); refine Kend_ret (by simp only [resOf,resL,resV,mkS_get,slots_get,cellsOf,if_true,sS,↓sT,Nat.reduceLT,Nat.reduceEqDiff]; rfl) (by first | rfl | (simp only [if_true]; done) | (simp only [if_true,okV,ok1,okC,okP,List.all_cons,List.all_nil,Bool.and_true]; done)) ?_
                   clear hN81 hD81 N81
                   first | (rw [keep_bool,rightR]; simp_all [isNil,OpS.dropsL]; done) | (rw [keep_bool,rightR]; simp_all [isNil,OpS.dropsL]; omega)
                 ·simp only [sS,↓sT,Nat.reduceLT,Nat.reduceEqDiff,↓sO,↓WOps_g,sG,opV,loudV,cellsOf,strOp,evL,Nat.reduceAdd,Int.reduceBEq,Int.reduceBNe,fS49,ti4,ti9,ti38,ti2,sR0,opCells,List.all_cons,List.all_nil,Bool.and_self,gt_iff_lt,lenD,hg3_4,hg3_9,hg3_21,hg3_26,hg3_32,hb50,hb54,hb58,hb62,hg65_4,hg65_9,hg65_21,hb79,hb83,hg84_3,hg84_8,hg84_14]
                  refine hN84 _ ?_; try clear hN84 hD84 N84
                  refine WC_ret ?_; (try simp only [Exit.after,Exit.out]); refine Kend_ret (by simp only [resOf,resL,resV,mkS_get,slots_get,cellsOf,if_true,sS,↓sT,Nat.reduceLT,Nat.reduceEqDiff]; rfl) (by first | rfl | (simp only [if_true]; done) | (simp only [if_true,okV,ok1,okC,okP,List.all_cons,List.all_nil,Bool.and_true]; done)) ?_
                  clear hN81 hD81 N81
                  first | (rw [keep_bool,rightR]; simp_all [isNil,OpS.dropsL]; done) | (rw [keep_bool,rightR]; simp_all [isNil,OpS.dropsL]; omega)
                ·simp only [sS,↓sT,Nat.reduceLT,Nat.reduceEqDiff,↓sO,↓WOps_g,sG,opV,loudV,cellsOf,strOp,evL,Nat.reduceAdd,Int.reduceBEq,Int.reduceBNe,fS49,ti4,ti9,ti38,ti2,sR0,opCells,List.all_cons,List.all_nil,Bool.and_self,gt_iff_lt,lenD,hg3_4,hg3_9,hg3_21,hg3_26,hg3_32,hb50,hb54,hb58,hb62,hg65_4,hg65_9,hg65_21,hb79,hb83,hg84_3,hg84_8]
                 refine hN84 _ ?_; try clear hN84 hD84 N84
                 refine WC_ret ?_; (try simp only [Exit.after,Exit.out]); refine Kend_ret (by simp only [resOf,resL,resV,mkS_get,slots_get,cellsOf,if_true,sS,↓sT,Nat.reduceLT,Nat.reduceEqDiff]; rfl) (by first | rfl | (simp only [if_true]; done) | (simp only [if_true,okV,ok1,okC,okP,List.all_cons,List.all_nil,Bool.and_true]; done)) ?_
                 clear hN81 hD81 N81
                 first | (rw [keep_bool,rightR]; simp_all [isNil,OpS.dropsL]; done) | (rw [keep_bool,rightR]; simp_all [isNil,OpS.dropsL]; omega)
               ·simp only [sS,↓sT,Nat.reduceLT,Nat.reduceEqDiff,↓sO,↓WOps_g,sG,opV,loudV,cellsOf,strOp,evL,Nat.reduceAdd,Int.reduceBEq,Int.reduceBNe,fS49,ti4,ti9,ti38,ti2,sR0,opCells,List.all_cons,List.all_nil,Bool.and_self,gt_iff_lt,lenD,hg3_4,hg3_9,hg3_21,hg3_26,hg3_32,hb50,hb54,hb58,hb62,hg65_4,hg65_9,hg65_21,hb79,hb83,hg84_3]
                refine hN84 _ ?_; try clear hN84 hD84 N84
                refine WC_ret ?_; (try simp only [Exit.after,Exit.out]); refine Kend_ret (by simp only [resOf,resL,resV,mkS_get,slots_get,cellsOf,if_true,sS,↓sT,Nat.reduceLT,Nat.reduceEqDiff]; rfl) (by first | rfl | (simp only [if_true]; done) | (simp only [if_true,okV,ok1,okC,okP,List.all_cons,List.all_nil,Bool.and_true]; done)) ?_
                clear hN81 hD81 N81
                first | (rw [keep_bool,rightR]; simp_all [isNil,OpS.dropsL]; done) | (rw [keep_bool,rightR]; simp_all [isNil,OpS.dropsL]; omega)
              ·refine WC_skip ?_
               refine hN81 _ ?_; try clear hN81 hD81 N81
               refine WC_seqR (fun N85 hN85 hD85 => ?_)
               simp only [sS,↓sT,Nat.reduceLT,Nat.reduceEqDiff,↓sO,↓WOps_g,sG,opV,loudV,cellsOf,strOp,evL,Nat.reduceAdd,Int.reduceBEq,Int.reduceBNe,fS49,ti3,ti2,ti4,ti9,sR0,opCells,List.all_cons,List.all_nil,Bool.and_self,gt_iff_lt,lenD,hg3_4,hg3_9,hg3_21,hg3_26,hg3_32,hb50,hb54,hb58,hb62,hg65_4,hg65_9,hg65_21,hb79,hb83]
               refine stepB_T (fun hg85_3 => ?_) (fun hg85_3 => ?_)
               ·simp only [sS,↓sT,Nat.reduceLT,Nat.reduceEqDiff,↓sO,↓WOps_g,sG,opV,loudV,cellsOf,strOp,evL,Nat.reduceAdd,Int.reduceBEq,Int.reduceBNe,fS49,ti3,ti2,ti4,ti9,sR0,opCells,List.all_cons,List.all_nil,Bool.and_self,gt_iff_lt,lenD,hg3_4,hg3_9,hg3_21,hg3_26,hg3_32,hb50,hb54,hb58,hb62,hg65_4,hg65_9,hg65_21,hb79,hb83,hg85_3]
                refine stepB_T (fun hg85_8 => ?_) (fun hg85_8 => ?_)
                ·simp only [sS,↓sT,Nat.reduceLT,Nat.reduceEqDiff,↓sO,↓WOps_g,sG,opV,loudV,cellsOf,strOp,evL,Nat.reduceAdd,Int.reduceBEq,Int.reduceBNe,fS49,ti3,ti2,ti4,ti9,sR0,opCells,List.all_cons,List.all_nil,Bool.and_self,gt_iff_lt,lenD,hg3_4,hg3_9,hg3_21,hg3_26,hg3_32,hb50,hb54,hb58,hb62,hg65_4,hg65_9,hg65_21,hb79,hb83,hg85_3,hg85_8]
                 refine stepB_T (fun hg85_11 => ?_) (fun hg85_11 => ?_)
                 ·simp only [sS,↓sT,Nat.reduceLT,Nat.reduceEqDiff,↓sO,↓WOps_g,sG,opV,loudV,cellsOf,strOp,evL,Nat.reduceAdd,Int.reduceBEq,Int.reduceBNe,fS49,ti3,ti2,ti4,ti9,sR0,opCells,List.all_cons,List.all_nil,Bool.and_self,gt_iff_lt,lenD,hg3_4,hg3_9,hg3_21,hg3_26,hg3_32,hb50,hb54,hb58,hb62,hg65_4,hg65_9,hg65_21,hb79,hb83,hg85_3,hg85_8,hg85_11]
                  refine stepB_F (fun hg85_17 => ?_) (fun hg85_17 => ?_)
                  ·simp only [sS,↓sT,Nat.reduceLT,Nat.reduceEqDiff,↓sO,↓WOps_g,sG,opV,loudV,cellsOf,strOp,evL,Nat.reduceAdd,Int.reduceBEq,Int.reduceBNe,fS49,ti3,ti2,ti4,ti9,sR0,opCells,List.all_cons,List.all_nil,Bool.and_self,gt_iff_lt,lenD,hg3_4,hg3_9,hg3_21,hg3_26,hg3_32,hb50,hb54,hb58,hb62,hg65_4,hg65_9,hg65_21,hb79,hb83,hg85_3,hg85_8,hg85_11,hg85_17]
                   refine hN85 _ ?_; try clear hN85 hD85 N85
                   refine WC_ret ?_; (try simp only [Exit.after,Exit.out]); refine Kend_ret (by simp only [resOf,resL,resV,mkS_get,slots_get,cellsOf,if_true,sS,↓sT,Nat.reduceLT,Nat.reduceEqDiff]; rfl) (by first | rfl | (simp only [if_true]; done) | (simp only [if_true,okV,ok1,okC,okP,List.all_cons,List.all_nil,Bool.and_true]; done)) ?_
                   first | (rw [keep_bool,rightR]; simp_all [isNil,OpS.dropsL]; done) | (rw [keep_bool,rightR]; simp_all [isNil,OpS.dropsL]; omega)
                  ·simp only [sS,↓sT,Nat.reduceLT,Nat.reduceEqDiff,↓sO,↓WOps_g,sG,opV,loudV,cellsOf,strOp,evL,Nat.reduceAdd,Int.reduceBEq,Int.reduceBNe,fS49,ti3,ti2,ti4,ti9,sR0,opCells,List.all_cons,List.all_nil,Bool.and_self,gt_iff_lt,lenD,hg3_4,hg3_9,hg3_21,hg3_26,hg3_32,hb50,hb54,hb58,hb62,hg65_4,hg65_9,hg65_21,hb79,hb83,hg85_3,hg85_8,hg85_11,hg85_17]
                   refine hN85 _ ?_; try clear hN85 hD85 N85
                   refine WC_ret ?_; (try simp only [Exit.after,Exit.out]); refine Kend_ret (by simp only [resOf,resL,resV,mkS_get,slots_get,cellsOf,if_true,sS,↓sT,Nat.reduceLT,Nat.reduceEqDiff]; rfl) (by first | rfl | (simp only [if_true]; done) | (simp only [if_true,okV,ok1,okC,okP,List.all_cons,List.all_nil,Bool.and_true]; done)) ?_
                   first | (rw [keep_bool,rightR]; simp_all [isNil,OpS.dropsL]; done) | (rw [keep_bool,rightR]; simp_all [isNil,OpS.dropsL]; omega)
                 ·simp only [sS,↓sT,Nat.reduceLT,Nat.reduceEqDiff,↓sO,↓WOps_g,sG,opV,loudV,cellsOf,strOp,evL,Nat.reduceAdd,Int.reduceBEq,Int.reduceBNe,fS49,ti3,ti2,ti4,ti9,sR0,opCells,List.all_cons,List.all_nil,Bool.and_self,gt_iff_lt,lenD,hg3_4,hg3_9,hg3_21,hg3_26,hg3_32,hb50,hb54,hb58,hb62,hg65_4,hg65_9,hg65_21,hb79,hb83,hg85_3,hg85_8,hg85_11]
                  refine hN85 _ ?_; try clear hN85 hD85 N85
                  refine WC_ret ?_; (try simp only [Exit.after,Exit.out]); refine Kend_ret (by simp only [resOf,resL,resV,mkS_get,slots_get,cellsOf,if_true,sS,↓sT,Nat.reduceLT,Nat.reduceEqDiff]; rfl) (by first | rfl | (simp only [if_true]; done) | (simp only [if_true,okV,ok1,okC,okP,List.all_cons,List.all_nil,Bool.and_true]; done)) ?_
                  first | (rw [keep_bool,rightR]; simp_all [isNil,OpS.dropsL]; done) | (rw [keep_bool,rightR]; simp_all [isNil,OpS.dropsL]; omega)
                ·simp only [sS,↓sT,Nat.reduceLT,Nat.reduceEqDiff,↓sO,↓WOps_g,sG,opV,loudV,cellsOf,strOp,evL,Nat.reduceAdd,Int.reduceBEq,Int.reduceBNe,fS49,ti3,ti2,ti4,ti9,sR0,opCells,List.all_cons,List.all_nil,Bool.and_self,gt_iff_lt,lenD,hg3_4,hg3_9,hg3_21,hg3_26,hg3_32,hb50,hb54,hb58,hb62,hg65_4,hg65_9,hg65_21,hb79,hb83,hg85_3,hg85_8]
                 refine hN85 _ ?_; try clear hN85 hD85 N85
                 refine WC_ret ?_; (try simp only [Exit.after,Exit.out]); refine Kend_ret (by simp only [resOf,resL,resV,mkS_get,slots_get,cellsOf,if_true,sS,↓sT,Nat.reduceLT,Nat.reduceEqDiff]; rfl) (by first | rfl | (simp only [if_true]; done) | (simp only [if_true,okV,ok1,okC,okP,List.all_cons,List.all_nil,Bool.and_true]; done)) ?_
                 first | (rw [keep_bool,rightR]; simp_all [isNil,OpS.dropsL]; done) | (rw [keep_bool,rightR]; simp_all [isNil,OpS.dropsL]; omega)
               ·simp only [sS,↓sT,Nat.reduceLT,Nat.reduceEqDiff,↓sO,↓WOps_g,sG,opV,loudV,cellsOf,strOp,evL,Nat.reduceAdd,Int.reduceBEq,Int.reduceBNe,fS49,ti3,ti2,ti4,ti9,sR0,opCells,List.all_cons,List.all_nil,Bool.and_self,gt_iff_lt,lenD,hg3_4,hg3_9,hg3_21,hg3_26,hg3_32,hb50,hb54,hb58,hb62,hg65_4,hg65_9,hg65_21,hb79,hb83,hg85_3]
                refine hN85 _ ?_; try clear hN85 hD85 N85
                refine WC_ret ?_; (try simp only [Exit.after,Exit.out]); refine Kend_ret (by simp only [resOf,resL,resV,mkS_get,slots_get,cellsOf,if_true,sS,↓sT,Nat.reduceLT,Nat.reduceEqDiff]; rfl) (by first | rfl | (simp only [if_true]; done) | (simp only [if_true,okV,ok1,okC,okP,List.all_cons,List.all_nil,Bool.and_true]; done)) ?_
                first | (rw [keep_bool,rightR]; simp_all [isNil,OpS.dropsL]; done) | (rw [keep_bool,rightR]; simp_all [isNil,OpS.dropsL]; omega)
            ·simp only [sS,↓sT,Nat.reduceLT,Nat.reduceEqDiff,↓sO,↓WOps_g,sG,opV,loudV,cellsOf,strOp,evL,Nat.reduceAdd,Int.reduceBEq,Int.reduceBNe,fS49,ti47,fS47,ti3,ti9,sR0,opCells,List.all_cons,List.all_nil,Bool.and_self,gt_iff_lt,lenD,hg3_4,hg3_9,hg3_21,hg3_26,hg3_32,hb50,hb54,hb58,hb62,hg65_4,hg65_9,hg65_21]
             refine hN65 _ ?_; try clear hN65 hD65 N65
             refine WC_condE ?_
             simp only [sS,↓sT,Nat.reduceLT,Nat.reduceEqDiff,↓stepC_bool,hg3_4,hg3_9,hg3_21,hg3_26,hg3_32,hb50,hb54,hb58,hb62,hg65_4,hg65_9,hg65_21,Int.reduceBEq,Int.reduceBNe,beq_self_eq_true,bne_self_eq_false]
             refine ⟨fun hb => (by cases hb),fun hb => ?_⟩
             refine WC_skip ?_
             refine hN64 _ ?_; try clear hN64 hD64 N64
             refine WC_seqN (fun N86 hN86 hD86 => ?_)
             refine WC_seqR (fun N87 hN87 hD87 => ?_)
             simp only [sS,↓sT,Nat.reduceLT,Nat.reduceEqDiff,↓sO,↓WOps_g,sG,opV,loudV,cellsOf,strOp,evL,Nat.reduceAdd,Int.reduceBEq,Int.reduceBNe,fS49,ti3,sR0,opCells,List.all_cons,List.all_nil,Bool.and_self,gt_iff_lt,lenD,hg3_4,hg3_9,hg3_21,hg3_26,hg3_32,hb50,hb54,hb58,hb62,hg65_4,hg65_9,hg65_21]
             refine hN87 _ ?_; try clear hN87 hD87 N87
             refine WC_condE ?_
             simp only [sS,↓sT,Nat.reduceLT,Nat.reduceEqDiff,↓stepC_bool,hg3_4,hg3_9,hg3_21,hg3_26,hg3_32,hb50,hb54,hb58,hb62,hg65_4,hg65_9,hg65_21,Int.reduceBEq,Int.reduceBNe,beq_self_eq_true,bne_self_eq_false]
             refine ⟨fun hb88 => ?_,fun hb88 => ?_⟩
             ·refine WC_seqR (fun N89 hN89 hD89 => ?_)
              simp only [sS,↓sT,Nat.reduceLT,Nat.reduceEqDiff,↓sO,↓WOps_g,sG,opV,loudV,cellsOf,strOp,evL,Nat.reduceAdd,Int.reduceBEq,Int.reduceBNe,fS49,ti4,ti9,ti38,ti2,sR0,opCells,List.all_cons,List.all_nil,Bool.and_self,gt_iff_lt,lenD,hg3_4,hg3_9,hg3_21,hg3_26,hg3_32,hb50,hb54,hb58,hb62,hg65_4,hg65_9,hg65_21,hb88]
              refine stepB_T (fun hg89_3 => ?_) (fun hg89_3 => ?_)
              ·simp only [sS,↓sT,Nat.reduceLT,Nat.reduceEqDiff,↓sO,↓WOps_g,sG,opV,loudV,cellsOf,strOp,evL,Nat.reduceAdd,Int.reduceBEq,Int.reduceBNe,fS49,ti4,ti9,ti38,ti2,sR0,opCells,List.all_cons,List.all_nil,Bool.and_self,gt_iff_lt,lenD,hg3_4,hg3_9,hg3_21,hg3_26,hg3_32,hb50,hb54,hb58,hb62,hg65_4,hg65_9,hg65_21,hb88,hg89_3]
               refine stepB_T (fun hg89_8 => ?_) (fun hg89_8 => ?_)
               ·simp only [sS,↓sT,Nat.reduceLT,Nat.reduceEqDiff,↓sO,↓WOps_g,sG,opV,loudV,cellsOf,strOp,evL,Nat.reduceAdd,Int.reduceBEq,Int.reduceBNe,fS49,ti4,ti9,ti38,ti2,sR0,opCells,List.all_cons,List.all_nil,Bool.and_self,gt_iff_lt,lenD,hg3_4,hg3_9,hg3_21,hg3_26,hg3_32,hb50,hb54,hb58,hb62,hg65_4,hg65_9,hg65_21,hb88,hg89_3,hg89_8]
                refine stepB_T (fun hg89_14 => ?_) (fun hg89_14 => ?_)
                ·simp only [sS,↓sT,Nat.reduceLT,Nat.reduceEqDiff,↓sO,↓WOps_g,sG,opV,loudV,cellsOf,strOp,evL,Nat.reduceAdd,Int.reduceBEq,Int.reduceBNe,fS49,ti4,ti9,ti38,ti2,sR0,opCells,List.all_cons,List.all_nil,Bool.and_self,gt_iff_lt,lenD,hg3_4,hg3_9,hg3_21,hg3_26,hg3_32,hb50,hb54,hb58,hb62,hg65_4,hg65_9,hg65_21,hb88,hg89_3,hg89_8,hg89_14]
                 refine stepB_T (fun hg89_19 => ?_) (fun hg89_19 => ?_)
                 ·simp only [sS,↓sT,Nat.reduceLT,Nat.reduceEqDiff,↓sO,↓WOps_g,sG,opV,loudV,cellsOf,strOp,evL,Nat.reduceAdd,Int.reduceBEq,Int.reduceBNe,fS49,ti4,ti9,ti38,ti2,sR0,opCells,List.all_cons,List.all_nil,Bool.and_self,gt_iff_lt,lenD,hg3_4,hg3_9,hg3_21,hg3_26,hg3_32,hb50,hb54,hb58,hb62,hg65_4,hg65_9,hg65_21,hb88,hg89_3,hg89_8,hg89_14,hg89_19]
                  refine hN89 _ ?_; try clear hN89 hD89 N89
                  refine WC_ret ?_; (try simp only [Exit.after,Exit.out]); refine Kend_ret (by simp only [resOf,resL,resV,mkS_get,slots_get,cellsOf,if_true,sS,↓sT,Nat.reduceLT,Nat.reduceEqDiff]; rfl) (by first | rfl | (simp only [if_true]; done) | (simp only [if_true,okV,ok1,okC,okP,List.all_cons,List.all_nil,Bool.and_true]; done)) ?_
                  clear hN86 hD86 N86
                  first | (rw [keep_bool,rightR]; simp_all [isNil,OpS.dropsL]; done) | (rw [keep_bool,rightR]; simp_all [isNil,OpS.dropsL]; omega)
                 ·simp only [sS,↓sT,Nat.reduceLT,Nat.reduceEqDiff,↓sO,↓WOps_g,sG,opV,loudV,cellsOf,strOp,evL,Nat.reduceAdd,Int.reduceBEq,Int.reduceBNe,fS49,ti4,ti9,ti38,ti2,sR0,opCells,List.all_cons,List.all_nil,Bool.and_self,gt_iff_lt,lenD,hg3_4,hg3_9,hg3_21,hg3_26,hg3_32,hb50,hb54,hb58,hb62,hg65_4,hg65_9,hg65_21,hb88,hg89_3,hg89_8,hg89_14,hg89_19]
                  refine hN89 _ ?_; try clear hN89 hD89 N89
                  refine WC_ret ?_; (try simp only [Exit.after,Exit.out]); refine Kend_ret (by simp only [resOf,resL,resV,mkS_get,slots_get,cellsOf,if_true,sS,↓sT,Nat.reduceLT,Nat.reduceEqDiff]; rfl) (by first | rfl | (simp only [if_true]; done) | (simp only [if_true,okV,ok1,okC,okP,List.all_cons,List.all_nil,Bool.and_true]; done)) ?_
                  clear hN86 hD86 N86
                  first | (rw [keep_bool,rightR]; simp_all [isNil,OpS.dropsL]; done) | (rw [keep_bool,rightR]; simp_all [isNil,OpS.dropsL]; omega)
                ·simp only [sS,↓sT,Nat.reduceLT,Nat.reduceEqDiff,↓sO,↓WOps_g,sG,opV,loudV,cellsOf,strOp,evL,Nat.reduceAdd,Int.reduceBEq,Int.reduceBNe,fS49,ti4,ti9,ti38,ti2,sR0,opCells,List.all_cons,List.all_nil,Bool.and_self,gt_iff_lt,lenD,hg3_4,hg3_9,hg3_21,hg3_26,hg3_32,hb50,hb54,hb58,hb62,hg65_4,hg65_9,hg65_21,hb88,hg89_3,hg89_8,hg89_14]
                 refine hN89 _ ?_; try clear hN89 hD89 N89
                 refine WC_ret ?_; (try simp only [Exit.after,Exit.out]); refine Kend_ret (by simp only [resOf,resL,resV,mkS_get,slots_get,cellsOf,if_true,sS,↓sT,Nat.reduceLT,Nat.reduceEqDiff]; rfl) (by first | rfl | (simp only [if_true]; done) | (simp only [if_true,okV,ok1,okC,okP,List.all_cons,List.all_nil,Bool.and_true]; done)) ?_
                 clear hN86 hD86 N86
                 first | (rw [keep_bool,rightR]; simp_all [isNil,OpS.dropsL]; done) | (rw [keep_bool,rightR]; simp_all [isNil,OpS.dropsL]; omega)
               ·simp only [sS,↓sT,Nat.reduceLT,Nat.reduceEqDiff,↓sO,↓WOps_g,sG,opV,loudV,cellsOf,strOp,evL,Nat.reduceAdd,Int.reduceBEq,Int.reduceBNe,fS49,ti4,ti9,ti38,ti2,sR0,opCells,List.all_cons,List.all_nil,Bool.and_self,gt_iff_lt,lenD,hg3_4,hg3_9,hg3_21,hg3_26,hg3_32,hb50,hb54,hb58,hb62,hg65_4,hg65_9,hg65_21,hb88,hg89_3,hg89_8]
                refine hN89 _ ?_; try clear hN89 hD89 N89
                refine WC_ret ?_; (try simp only [Exit.after,Exit.out]); refine Kend_ret (by simp only [resOf,resL,resV,mkS_get,slots_get,cellsOf,if_true,sS,↓sT,Nat.reduceLT,Nat.reduceEqDiff]; rfl) (by first | rfl | (simp only [if_true]; done) | (simp only [if_true,okV,ok1,okC,okP,List.all_cons,List.all_nil,Bool.and_true]; done)) ?_
                clear hN86 hD86 N86
                first | (rw [keep_bool,rightR]; simp_all [isNil,OpS.dropsL]; done) | (rw [keep_bool,rightR]; simp_all [isNil,OpS.dropsL]; omega)
              ·simp only [sS,↓sT,Nat.reduceLT,Nat.reduceEqDiff,↓sO,↓WOps_g,sG,opV,loudV,cellsOf,strOp,evL,Nat.reduceAdd,Int.reduceBEq,Int.reduceBNe,fS49,ti4,ti9,ti38,ti2,sR0,opCells,List.all_cons,List.all_nil,Bool.and_self,gt_iff_lt,lenD,hg3_4,hg3_9,hg3_21,hg3_26,hg3_32,hb50,hb54,hb58,hb62,hg65_4,hg65_9,hg65_21,hb88,hg89_3]
               refine hN89 _ ?_; try clear hN89 hD89 N89
               refine WC_ret ?_; (try simp only [Exit.after,Exit.out]); refine Kend_ret (by simp only [resOf,resL,resV,mkS_get,slots_get,cellsOf,if_true,sS,↓sT,Nat.reduceLT,Nat.reduceEqDiff]; rfl) (by first | rfl | (simp only [if_true]; done) | (simp only [if_true,okV,ok1,okC,okP,List.all_cons,List.all_nil,Bool.and_true]; done)) ?_
               clear hN86 hD86 N86
               first | (rw [keep_bool,rightR]; simp_all [isNil,OpS.dropsL]; done) | (rw [keep_bool,rightR]; simp_all [isNil,OpS.dropsL]; omega)
             ·refine WC_skip ?_
              refine hN86 _ ?_; try clear hN86 hD86 N86
              refine WC_seqR (fun N90 hN90 hD90 => ?_)
              simp only [sS,↓sT,Nat.reduceLT,Nat.reduceEqDiff,↓sO,↓WOps_g,sG,opV,loudV,cellsOf,strOp,evL,Nat.reduceAdd,Int.reduceBEq,Int.reduceBNe,fS49,ti3,ti2,ti4,ti9,sR0,opCells,List.all_cons,List.all_nil,Bool.and_self,gt_iff_lt,lenD,hg3_4,hg3_9,hg3_21,hg3_26,hg3_32,hb50,hb54,hb58,hb62,hg65_4,hg65_9,hg65_21,hb88]
              refine stepB_T (fun hg90_3 => ?_) (fun hg90_3 => ?_)
              ·simp only [sS,↓sT,Nat.reduceLT,Nat.reduceEqDiff,↓sO,↓WOps_g,sG,opV,loudV,cellsOf,strOp,evL,Nat.reduceAdd,Int.reduceBEq,Int.reduceBNe,fS49,ti3,ti2,ti4,ti9,sR0,opCells,List.all_cons,List.all_nil,Bool.and_self,gt_iff_lt,lenD,hg3_4,hg3_9,hg3_21,hg3_26,hg3_32,hb50,hb54,hb58,hb62,hg65_4,hg65_9,hg65_21,hb88,hg90_3]
               refine stepB_T (fun hg90_8 => ?_) (fun hg90_8 => ?_)
               ·simp only [sS,↓sT,Nat.reduceLT,Nat.reduceEqDiff,↓sO,↓WOps_g,sG,opV,loudV,cellsOf,strOp,evL,Nat.reduceAdd,Int.reduceBEq,Int.reduceBNe,fS49,ti3,ti2,ti4,ti9,sR0,opCells,List.all_cons,List.all_nil,Bool.and_self,gt_iff_lt,lenD,hg3_4,hg3_9,hg3_21,hg3_26,hg3_32,hb50,hb54,hb58,hb62,hg65_4,hg65_9,hg65_21,hb88,hg90_3,hg90_8]
                refine stepB_T (fun hg90_11 => ?_) (fun hg90_11 => ?_)
                ·simp only [sS,↓sT,Nat.reduceLT,Nat.reduceEqDiff,↓sO,↓WOps_g,sG,opV,loudV,cellsOf,strOp,evL,Nat.reduceAdd,Int.reduceBEq,Int.reduceBNe,fS49,ti3,ti2,ti4,ti9,sR0,opCells,List.all_cons,List.all_nil,Bool.and_self,gt_iff_lt,lenD,hg3_4,hg3_9,hg3_21,hg3_26,hg3_32,hb50,hb54,hb58,hb62,hg65_4,hg65_9,hg65_21,hb88,hg90_3,hg90_8,hg90_11]
                 refine stepB_F (fun hg90_17 => ?_) (fun hg90_17 => ?_)
                 ·simp only [sS,↓sT,Nat.reduceLT,Nat.reduceEqDiff,↓sO,↓WOps_g,sG,opV,loudV,cellsOf,strOp,evL,Nat.reduceAdd,Int.reduceBEq,Int.reduceBNe,fS49,ti3,ti2,ti4,ti9,sR0,opCells,List.all_cons,List.all_nil,Bool.and_self,gt_iff_lt,lenD,hg3_4,hg3_9,hg3_21,hg3_26,hg3_32,hb50,hb54,hb58,hb62,hg65_4,hg65_9,hg65_21,hb88,hg90_3,hg90_8,hg90_11,hg90_17]
                  refine hN90 _ ?_; try clear hN90 hD90 N90
                  refine WC_ret ?_; (try simp only [Exit.after,Exit.out]); refine Kend_ret (by simp only [resOf,resL,resV,mkS_get,slots_get,cellsOf,if_true,sS,↓sT,Nat.reduceLT,Nat.reduceEqDiff]; rfl) (by first | rfl | (simp only [if_true]; done) | (simp only [if_true,okV,ok1,okC,okP,List.all_cons,List.all_nil,Bool.and_true]; done)) ?_
                  first | (rw [keep_bool,rightR]; simp_all [isNil,OpS.dropsL]; done) | (rw [keep_bool,rightR]; simp_all [isNil,OpS.dropsL]; omega)
                 ·simp only [sS,↓sT,Nat.reduceLT,Nat.reduceEqDiff,↓sO,↓WOps_g,sG,opV,loudV,cellsOf,strOp,evL,Nat.reduceAdd,Int.reduceBEq,Int.reduceBNe,fS49,ti3,ti2,ti4,ti9,sR0,opCells,List.all_cons,List.all_nil,Bool.and_self,gt_iff_lt,lenD,hg3_4,hg3_9,hg3_21,hg3_26,hg3_32,hb50,hb54,hb58,hb62,hg65_4,hg65_9,hg65_21,hb88,hg90_3,hg90_8,hg90_11,hg90_17]
                  refine hN90 _ ?_; try clear hN90 hD90 N90
                  refine WC_ret ?_; (try simp only [Exit.after,Exit.out]); refine Kend_ret (by simp only [resOf,resL,resV,mkS_get,slots_get,cellsOf,if_true,sS,↓sT,Nat.reduceLT,Nat.reduceEqDiff]; rfl) (by first | rfl | (simp only [if_true]; done) | (simp only [if_true,okV,ok1,okC,okP,List.all_cons,List.all_nil,Bool.and_true]; done)) ?_
                  first | (rw [keep_bool,rightR]; simp_all [isNil,OpS.dropsL]; done) | (rw [keep_bool,rightR]; simp_all [isNil,OpS.dropsL]; omega)
                ·simp only [sS,↓sT,Nat.reduceLT,Nat.reduceEqDiff,↓sO,↓WOps_g,sG,opV,loudV,cellsOf,strOp,evL,Nat.reduceAdd,Int.reduceBEq,Int.reduceBNe,fS49,ti3,ti2,ti4,ti9,sR0,opCells,List.all_cons,List.all_nil,Bool.and_self,gt_iff_lt,lenD,hg3_4,hg3_9,hg3_21,hg3_26,hg3_32,hb50,hb54,hb58,hb62,hg65_4,hg65_9,hg65_21,hb88,hg90_3,hg90_8,hg90_11]
                 refine hN90 _ ?_; try clear hN90 hD90 N90
                 refine WC_ret ?_; (try simp only [Exit.after,Exit.out]); refine Kend_ret (by simp only [resOf,resL,resV,mkS_get,slots_get,cellsOf,if_true,sS,↓sT,Nat.reduceLT,Nat.reduceEqDiff]; rfl) (by first | rfl | (simp only [if_true]; done) | (simp only [if_true,okV,ok1,okC,okP,List.all_cons,List.all_nil,Bool.and_true]; done)) ?_
                 first | (rw [keep_bool,rightR]; simp_all [isNil,OpS.dropsL]; done) | (rw [keep_bool,rightR]; simp_all [isNil,OpS.dropsL]; omega)
               ·simp only [sS,↓sT,Nat.reduceLT,Nat.reduceEqDiff,↓sO,↓WOps_g,sG,opV,loudV,cellsOf,strOp,evL,Nat.reduceAdd,Int.reduceBEq,Int.reduceBNe,fS49,ti3,ti2,ti4,ti9,sR0,opCells,List.all_cons,List.all_nil,Bool.and_self,gt_iff_lt,lenD,hg3_4,hg3_9,hg3_21,hg3_26,hg3_32,hb50,hb54,hb58,hb62,hg65_4,hg65_9,hg65_21,hb88,hg90_3,hg90_8]
                refine hN90 _ ?_; try clear hN90 hD90 N90
                refine WC_ret ?_; (try simp only [Exit.after,Exit.out]); refine Kend_ret (by simp only [resOf,resL,resV,mkS_get,slots_get,cellsOf,if_true,sS,↓sT,Nat.reduceLT,Nat.reduceEqDiff]; rfl) (by first | rfl | (simp only [if_true]; done) | (simp only [if_true,okV,ok1,okC,okP,List.all_cons,List.all_nil,Bool.and_true]; done)) ?_
                first | (rw [keep_bool,rightR]; simp_all [isNil,OpS.dropsL]; done) | (rw [keep_bool,rightR]; simp_all [isNil,OpS.dropsL]; omega)
              ·simp only [sS,↓sT,Nat.reduceLT,Nat.reduceEqDiff,↓sO,↓WOps_g,sG,opV,loudV,cellsOf,strOp,evL,Nat.reduceAdd,Int.reduceBEq,Int.reduceBNe,fS49,ti3,ti2,ti4,ti9,sR0,opCells,List.all_cons,List.all_nil,Bool.and_self,gt_iff_lt,lenD,hg3_4,hg3_9,hg3_21,hg3_26,hg3_32,hb50,hb54,hb58,hb62,hg65_4,hg65_9,hg65_21,hb88,hg90_3]
               refine hN90 _ ?_; try clear hN90 hD90 N90
               refine WC_ret ?_; (try simp only [Exit.after,Exit.out]); refine Kend_ret (by simp only [resOf,resL,resV,mkS_get,slots_get,cellsOf,if_true,sS,↓sT,Nat.reduceLT,Nat.reduceEqDiff]; rfl) (by first | rfl | (simp only [if_true]; done) | (simp only [if_true,okV,ok1,okC,okP,List.all_cons,List.all_nil,Bool.and_true]; done)) ?_
               first | (rw [keep_bool,rightR]; simp_all [isNil,OpS.dropsL]; done) | (rw [keep_bool,rightR]; simp_all [isNil,OpS.dropsL]; omega)
          ·simp only [sS,↓sT,Nat.reduceLT,Nat.reduceEqDiff,↓sO,↓WOps_g,sG,opV,loudV,cellsOf,strOp,evL,Nat.reduceAdd,Int.reduceBEq,Int.reduceBNe,fS49,ti47,fS47,ti3,ti9,sR0,opCells,List.all_cons,List.all_nil,Bool.and_self,gt_iff_lt,lenD,hg3_4,hg3_9,hg3_21,hg3_26,hg3_32,hb50,hb54,hb58,hb62,hg65_4]
           refine hN65 _ ?_; try clear hN65 hD65 N65
           refine WC_condE ?_
           simp only [sS,↓sT,Nat.reduceLT,Nat.reduceEqDiff,↓stepC_bool,hg3_4,hg3_9,hg3_21,hg3_26,hg3_32,hb50,hb54,hb58,hb62,hg65_4,Int.reduceBEq,Int.reduceBNe,beq_self_eq_true,bne_self_eq_false]
           refine ⟨fun hb => ?_,fun hb => (by cases hb)⟩
           refine WC_seqR (fun N91 hN91 hD91 => ?_)
           simp only [sS,↓sT,Nat.reduceLT,Nat.reduceEqDiff,↓sO,↓WOps_g,sG,opV,loudV,cellsOf,strOp,evL,Nat.reduceAdd,Int.reduceBEq,Int.reduceBNe,sR0,opCells,List.all_cons,List.all_nil,Bool.and_self,gt_iff_lt,lenD,hg3_4,hg3_9,hg3_21,hg3_26,hg3_32,hb50,hb54,hb58,hb62,hg65_4]
           refine hN91 _ ?_; try clear hN91 hD91 N91
           refine WC_ret ?_; (try simp only [Exit.after,Exit.out]); refine Kend_ret (by simp only [resOf,resL,resV,mkS_get,slots_get,cellsOf,if_true,sS,↓sT,Nat.reduceLT,Nat.reduceEqDiff]; rfl) (by first | rfl | (simp only [if_true]; done) | (simp only [if_true,okV,ok1,okC,okP,List.all_cons,List.all_nil,Bool.and_true]; done)) ?_
           clear hN64 hD64 N64
           first | (rw [keep_bool,rightR]; simp_all [isNil,OpS.dropsL]; done) | (rw [keep_bool,rightR]; simp_all [isNil,OpS.dropsL]; omega)
     ·simp only [sS,↓sT,Nat.reduceLT,Nat.reduceEqDiff,↓sO,↓WOps_g,sG,opV,loudV,cellsOf,strOp,evL,Nat.reduceAdd,Int.reduceBEq,Int.reduceBNe,fS49,ti25,buildV,evParts,V.isCell,List.all_cons,List.all_nil,Bool.and_self,if_true,placesOf,fillV,List.getElem?_cons_zero,List.getElem?_cons_succ,List.length_cons,List.length_nil,Nat.zero_add,ne_eq,not_true_eq_false,false_or,gt_iff_lt,if_false,wrL,Option.map_some,List.set_cons_zero,List.set_cons_succ,ti2,ti9,ti49,sR0,opCells,lenD,hg3_4,hg3_9,hg3_21,hg3_26,hg3_32]
      refine hN3 _ ?_; try clear hN3 hD3 N3
      refine WC_condE ?_
      simp only [sS,↓sT,Nat.reduceLT,Nat.reduceEqDiff,↓stepC_bool,hg3_4,hg3_9,hg3_21,hg3_26,hg3_32,Int.reduceBEq,Int.reduceBNe,beq_self_eq_true,bne_self_eq_false]
      refine ⟨fun hb => ?_,fun hb => (by cases hb)⟩
      refine WC_seqR (fun N92 hN92 hD92 => ?_)
      simp only [sS,↓sT,Nat.reduceLT,Nat.reduceEqDiff,↓sO,↓WOps_g,sG,opV,loudV,cellsOf,strOp,evL,Nat.reduceAdd,Int.reduceBEq,Int.reduceBNe,sR0,opCells,List.all_cons,List.all_nil,Bool.and_self,gt_iff_lt,lenD,hg3_4,hg3_9,hg3_21,hg3_26,hg3_32]
      refine hN92 _ ?_; try clear hN92 hD92 N92
      refine WC_ret ?_; (try simp only [Exit.after,Exit.out]); refine Kend_ret (by simp only [resOf,resL,resV,mkS_get,slots_get,cellsOf,if_true,sS,↓sT,Nat.reduceLT,Nat.reduceEqDiff]; rfl) (by first | rfl | (simp only [if_true]; done) | (simp only [if_true,okV,ok1,okC,okP,List.all_cons,List.all_nil,Bool.and_true]; done)) ?_
      clear hN2 hD2 N2
      first | (rw [keep_bool,rightR]; simp_all [isNil,OpS.dropsL]; done) | (rw [keep_bool,rightR]; simp_all [isNil,OpS.dropsL]; omega)
    ·simp only [sS,↓sT,Nat.reduceLT,Nat.reduceEqDiff,↓sO,↓WOps_g,sG,opV,loudV,cellsOf,strOp,evL,Nat.reduceAdd,Int.reduceBEq,Int.reduceBNe,fS49,ti25,buildV,evParts,V.isCell,List.all_cons,List.all_nil,Bool.and_self,if_true,placesOf,fillV,List.getElem?_cons_zero,List.getElem?_cons_succ,List.length_cons,List.length_nil,Nat.zero_add,ne_eq,not_true_eq_false,false_or,gt_iff_lt,if_false,wrL,Option.map_some,List.set_cons_zero,List.set_cons_succ,ti2,ti9,ti49,sR0,opCells,lenD,hg3_4,hg3_9,hg3_21,hg3_26]
     refine hN3 _ ?_; try clear hN3 hD3 N3
     refine WC_condE ?_
     simp only [sS,↓sT,Nat.reduceLT,Nat.reduceEqDiff,↓stepC_bool,hg3_4,hg3_9,hg3_21,hg3_26,Int.reduceBEq,Int.reduceBNe,beq_self_eq_true,bne_self_eq_false]
     refine ⟨fun hb => ?_,fun hb => (by cases hb)⟩
     refine WC_seqR (fun N93 hN93 hD93 => ?_)
     simp only [sS,↓sT,Nat.reduceLT,Nat.reduceEqDiff,↓sO,↓WOps_g,sG,opV,loudV,cellsOf,strOp,evL,Nat.reduceAdd,Int.reduceBEq,Int.reduceBNe,sR0,opCells,List.all_cons,List.all_nil,Bool.and_self,gt_iff_lt,lenD,hg3_4,hg3_9,hg3_21,hg3_26]
     refine hN93 _ ?_; try clear hN93 hD93 N93
     refine WC_ret ?_; (try simp only [Exit.after,Exit.out]); refine Kend_ret (by simp only [resOf,resL,resV,mkS_get,slots_get,cellsOf,if_true,sS,↓sT,Nat.reduceLT,Nat.reduceEqDiff]; rfl) (by first | rfl | (simp only [if_true]; done) | (simp only [if_true,okV,ok1,okC,okP,List.all_cons,List.all_nil,Bool.and_true]; done)) ?_
     clear hN2 hD2 N2
     first | (rw [keep_bool,rightR]; simp_all [isNil,OpS.dropsL]; done) | (rw [keep_bool,rightR]; simp_all [isNil,OpS.dropsL]; omega)
   ·simp only [sS,↓sT,Nat.reduceLT,Nat.reduceEqDiff,↓sO,↓WOps_g,sG,opV,loudV,cellsOf,strOp,evL,Nat.reduceAdd,Int.reduceBEq,Int.reduceBNe,fS49,ti25,buildV,evParts,V.isCell,List.all_cons,List.all_nil,Bool.and_self,if_true,placesOf,fillV,List.getElem?_cons_zero,List.getElem?_cons_succ,List.length_cons,List.length_nil,Nat.zero_add,ne_eq,not_true_eq_false,false_or,gt_iff_lt,if_false,wrL,Option.map_some,List.set_cons_zero,List.set_cons_succ,ti2,ti9,ti49,sR0,opCells,lenD,hg3_4,hg3_9,hg3_21]
    refine hN3 _ ?_; try clear hN3 hD3 N3
    refine WC_condE ?_
    simp only [sS,↓sT,Nat.reduceLT,Nat.reduceEqDiff,↓stepC_bool,hg3_4,hg3_9,hg3_21,Int.reduceBEq,Int.reduceBNe,beq_self_eq_true,bne_self_eq_false]
    refine ⟨fun hb => ?_,fun hb => (by cases hb)⟩
    refine WC_seqR (fun N94 hN94 hD94 => ?_)
    simp only [sS,↓sT,Nat.reduceLT,Nat.reduceEqDiff,↓sO,↓WOps_g,sG,opV,loudV,cellsOf,strOp,evL,Nat.reduceAdd,Int.reduceBEq,Int.reduceBNe,sR0,opCells,List.all_cons,List.all_nil,Bool.and_self,gt_iff_lt,lenD,hg3_4,hg3_9,hg3_21]
    refine hN94 _ ?_; try clear hN94 hD94 N94
    refine WC_ret ?_; (try simp only [Exit.after,Exit.out]); refine Kend_ret (by simp only [resOf,resL,resV,mkS_get,slots_get,cellsOf,if_true,sS,↓sT,Nat.reduceLT,Nat.reduceEqDiff]; rfl) (by first | rfl | (simp only [if_true]; done) | (simp only [if_true,okV,ok1,okC,okP,List.all_cons,List.all_nil,Bool.and_true]; done)) ?_
    clear hN2 hD2 N2
    first | (rw [keep_bool,rightR]; simp_all [isNil,OpS.dropsL]; done) | (rw [keep_bool,rightR]; simp_all [isNil,OpS.dropsL]; omega)
 ·simp only [sS,↓sT,Nat.reduceLT,Nat.reduceEqDiff,↓sO,↓WOps_g,sG,opV,loudV,cellsOf,strOp,evL,Nat.reduceAdd,Int.reduceBEq,Int.reduceBNe,fS49,ti25,buildV,evParts,V.isCell,List.all_cons,List.all_nil,Bool.and_self,if_true,placesOf,fillV,List.getElem?_cons_zero,List.getElem?_cons_succ,List.length_cons,List.length_nil,Nat.zero_add,ne_eq,not_true_eq_false,false_or,gt_iff_lt,if_false,wrL,Option.map_some,List.set_cons_zero,List.set_cons_succ,ti2,ti9,ti49,sR0,opCells,lenD,hg3_4]
  refine hN3 _ ?_; try clear hN3 hD3 N3
  refine WC_condE ?_
  simp only [sS,↓sT,Nat.reduceLT,Nat.reduceEqDiff,↓stepC_bool,hg3_4,Int.reduceBEq,Int.reduceBNe,beq_self_eq_true,bne_self_eq_false]
  refine ⟨fun hb => ?_,fun hb => (by cases hb)⟩
  refine WC_seqR (fun N95 hN95 hD95 => ?_)
  simp only [sS,↓sT,Nat.reduceLT,Nat.reduceEqDiff,↓sO,↓WOps_g,sG,opV,loudV,cellsOf,strOp,evL,Nat.reduceAdd,Int.reduceBEq,Int.reduceBNe,sR0,opCells,List.all_cons,List.all_nil,Bool.and_self,gt_iff_lt,lenD,hg3_4]
  refine hN95 _ ?_; try clear hN95 hD95 N95
  refine WC_ret ?_; (try simp only [Exit.after,Exit.out]); refine Kend_ret (by simp only [resOf,resL,resV,mkS_get,slots_get,cellsOf,if_true,sS,↓sT,Nat.reduceLT,Nat.reduceEqDiff]; rfl) (by first | rfl | (simp only [if_true]; done) | (simp only [if_true,okV,ok1,okC,okP,List.all_cons,List.all_nil,Bool.and_true]; done)) ?_
  clear hN2 hD2 N2
  first | (rw [keep_bool,rightR]; simp_all [isNil,OpS.dropsL]; done) | (rw [keep_bool,rightR]; simp_all [isNil,OpS.dropsL]; omega)
end Go.PV
