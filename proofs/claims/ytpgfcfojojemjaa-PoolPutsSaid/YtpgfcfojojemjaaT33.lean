/- Whether an op is right. -/
import Derived.Test.YtpgfcfojojemjaaT32
import Derived.Test.YtpgfcfojojemjaaT31
namespace Go.PV
open Go.Proofs
set_option linter.unusedVariables false
set_option linter.unusedSimpArgs false
set_option maxRecDepth 10000
set_option maxHeartbeats 4000000

theorem load15 {l : List (Nat × TypeId)} {b : Nat} {z : Option (List V)} (o : OpS) : loadV ⟨.struct l, 15, b, z⟩ [.int .i64 o.idR, .int .i64 o.idN, .int .i64 o.scR, .int .i64 o.scN, .int .i64 o.time, .str o.cart, .int .i64 o.kind, .str o.item, .int .i64 o.atS, .str o.atG, .str o.atN, .int .i64 o.delta, .bool o.has, .str o.text, dropsW o.drops] = some (opW o) := rfl
def isNil (r n : Int) : Bool := r == 0 && n == 0
def rightS (o : OpS) : Bool :=
  decide (1 ≤ o.kind) && (decide (o.kind ≤ 5) && (sameO o (partsS o) && (dropsB o && (nameB o.cart && (tagB o.idR o.idN && ((isNil o.scR o.scN || tagB o.scR o.scN) && (decide (1 ≤ o.time) && (decide (o.time ≤ 1099511627776) &&
    (o.kind == 5 || (if o.kind = 1 ∨ o.kind = 2 then nameB o.item else (o.atS == 0 || nameB o.item) && (placeB o.atS o.atG o.atN && (decide (-1048576 ≤ o.delta) && (decide (o.delta ≤ 1048576) && decide ((o.text.length : Int) ≤ 40))))))))))))))
theorem c_punnet_op_Right (o : OpS) (hL : o.dropsL.length ≤ 4611686018427387904) : VC Try.prog 51 [opW o] [] (fun r _ => r = .bool (rightS o)) := by
 refine VC_enter (nt := 100) (rs := [.tmp 2]) (ow := []) (m := 0) Try.func51 rfl (by rfl) rfl rfl (by simp) (by simp [ownOf,op_toks]) rfl (fun n => ?_)
 simp only [zipT,Nat.zero_add]
 refine WC_seqR (fun N1 hN1 hD1 => ?_)
 simp only [sS,↓sT,Nat.reduceLT,Nat.reduceEqDiff,↓sO,↓WOps_g,sG,opV,loudV,cellsOf,strOp,evL,Nat.reduceAdd,Int.reduceBEq,Int.reduceBNe,op_cells,opCells,List.all_cons,List.all_nil,icell_int,icell_str,icell_bool,dropsW_isC,Bool.and_self,load_slice,load_int,load_str,load_bool,tag_load2,tag_load,ref_load,tag_eql,tag_neq,ref_eql,str_eql,bool_eql,load15,gt_iff_lt,ge_iff_le,tag_full,tag_fold,ti3]
 refine hN1 _ ?_; try clear hN1 hD1 N1
 refine WC_seqN (fun N2 hN2 hD2 => ?_)
 refine WC_seqD mixed [] [0,0,0,0,0,0,0,0,0,0,0,1,0,0,0,0,0,0,0,0,0,0,0,0,0,0] (by decide +kernel) (fun N3 hN3 hD3 => ?_)
 simp only [sS,↓sT,Nat.reduceLT,Nat.reduceEqDiff,↓sD,↓D_g,memOk,lets0,lets1,List.not_mem_nil,not_false_eq_true,true_and,and_true,sG,opV,loudV,cellsOf,strOp,evL,Nat.reduceAdd,Int.reduceBEq,Int.reduceBNe,fS49,ti3,ti49,ti9,op_cells,opCells,List.all_cons,List.all_nil,icell_int,icell_str,icell_bool,dropsW_isC,Bool.and_self,load_slice,load_int,load_str,load_bool,tag_load2,tag_load,ref_load,tag_eql,tag_neq,ref_eql,str_eql,bool_eql,load15,gt_iff_lt,ge_iff_le,tag_full,tag_fold]
 refine stepB_F (fun hg3_3 => ?_) (fun hg3_3 => ?_)
 ·simp only [sS,↓sT,Nat.reduceLT,Nat.reduceEqDiff,↓sD,↓D_g,memOk,lets0,lets1,List.not_mem_nil,not_false_eq_true,true_and,and_true,sG,opV,loudV,cellsOf,strOp,evL,Nat.reduceAdd,Int.reduceBEq,Int.reduceBNe,fS49,ti3,ti49,ti9,op_cells,opCells,List.all_cons,List.all_nil,icell_int,icell_str,icell_bool,dropsW_isC,Bool.and_self,load_slice,load_int,load_str,load_bool,tag_load2,tag_load,ref_load,tag_eql,tag_neq,ref_eql,str_eql,bool_eql,load15,gt_iff_lt,ge_iff_le,tag_full,tag_fold,hg3_3]
  refine stepB_F (fun hg3_8 => ?_) (fun hg3_8 => ?_)
  ·simp only [sS,↓sT,Nat.reduceLT,Nat.reduceEqDiff,↓sD,↓D_g,memOk,lets0,lets1,List.not_mem_nil,not_false_eq_true,true_and,and_true,sG,opV,loudV,cellsOf,strOp,evL,Nat.reduceAdd,Int.reduceBEq,Int.reduceBNe,fS49,ti3,ti49,ti9,op_cells,opCells,List.all_cons,List.all_nil,icell_int,icell_str,icell_bool,dropsW_isC,Bool.and_self,load_slice,load_int,load_str,load_bool,tag_load2,tag_load,ref_load,tag_eql,tag_neq,ref_eql,str_eql,bool_eql,load15,gt_iff_lt,ge_iff_le,tag_full,tag_fold,hg3_3,hg3_8]
   refine D_callP (c_parts o (by have := of_decide_eq_false hg3_3; omega) (by have := of_decide_eq_false hg3_8; omega)) (by simp only [ev_func]) (by simp only [evL,sS,↓sT,Nat.reduceLT,Nat.reduceEqDiff]; rfl) (by first | rfl | (simp only [List.map,op_bare,tag_bare,ref_bare,bare_str]; done) | (simp only [List.map,op_bare,tag_bare,ref_bare,bare_str]; exact rfl)) (by first | rfl | simp [op_noP,tag_noP,ref_noP,noP_str]) (by first | rfl | simp [op_noP,tag_noP,ref_noP,noP_str]) (by first | exact op_bare _ | rfl) ?_
   simp only [sS,↓sT,Nat.reduceLT,Nat.reduceEqDiff,↓sD,↓D_g,memOk,lets0,lets1,List.not_mem_nil,not_false_eq_true,true_and,and_true,sG,opV,loudV,cellsOf,strOp,evL,Nat.reduceAdd,Int.reduceBEq,Int.reduceBNe,fS49,ti3,ti49,ti9,op_cells,opCells,List.all_cons,List.all_nil,icell_int,icell_str,icell_bool,dropsW_isC,Bool.and_self,load_slice,load_int,load_str,load_bool,tag_load2,tag_load,ref_load,tag_eql,tag_neq,ref_eql,str_eql,bool_eql,load15,gt_iff_lt,ge_iff_le,tag_full,tag_fold,hg3_3,hg3_8]
   refine D_callP (c_punnet_op_Same o (partsS o) hL) (by simp only [ev_func]) (by simp only [evL,sS,↓sT,Nat.reduceLT,Nat.reduceEqDiff]; rfl) (by first | rfl | (simp only [List.map,op_bare,tag_bare,ref_bare,bare_str]; done) | (simp only [List.map,op_bare,tag_bare,ref_bare,bare_str]; exact rfl)) (by first | rfl | simp [op_noP,tag_noP,ref_noP,noP_str]) (by first | rfl | simp [op_noP,tag_noP,ref_noP,noP_str]) (by first | exact op_bare _ | rfl) ?_
   simp only [sS,↓sT,Nat.reduceLT,Nat.reduceEqDiff,↓sD,↓D_g,memOk,lets0,lets1,List.not_mem_nil,not_false_eq_true,true_and,and_true,sG,opV,loudV,cellsOf,strOp,evL,Nat.reduceAdd,Int.reduceBEq,Int.reduceBNe,fS49,ti3,ti49,ti9,op_cells,opCells,List.all_cons,List.all_nil,icell_int,icell_str,icell_bool,dropsW_isC,Bool.and_self,load_slice,load_int,load_str,load_bool,tag_load2,tag_load,ref_load,tag_eql,tag_neq,ref_eql,str_eql,bool_eql,load15,gt_iff_lt,ge_iff_le,tag_full,tag_fold,hg3_3,hg3_8]
   refine stepB_F (fun hg3_15 => ?_) (fun hg3_15 => ?_)
   ·simp only [sS,↓sT,Nat.reduceLT,Nat.reduceEqDiff,↓sD,↓D_g,memOk,lets0,lets1,List.not_mem_nil,not_false_eq_true,true_and,and_true,sG,opV,loudV,cellsOf,strOp,evL,Nat.reduceAdd,Int.reduceBEq,Int.reduceBNe,fS49,ti3,ti49,ti9,op_cells,opCells,List.all_cons,List.all_nil,icell_int,icell_str,icell_bool,dropsW_isC,Bool.and_self,load_slice,load_int,load_str,load_bool,tag_load2,tag_load,ref_load,tag_eql,tag_neq,ref_eql,str_eql,bool_eql,load15,gt_iff_lt,ge_iff_le,tag_full,tag_fold,hg3_3,hg3_8,hg3_15]
    refine D_callP (c_punnet_op_drops o) (by simp only [ev_func]) (by simp only [evL,sS,↓sT,Nat.reduceLT,Nat.reduceEqDiff]; rfl) (by first | rfl | (simp only [List.map,op_bare,tag_bare,ref_bare,bare_str]; done) | (simp only [List.map,op_bare,tag_bare,ref_bare,bare_str]; exact rfl)) (by first | rfl | simp [op_noP,tag_noP,ref_noP,noP_str]) (by first | rfl | simp [op_noP,tag_noP,ref_noP,noP_str]) (by first | exact op_bare _ | rfl) ?_
    simp only [sS,↓sT,Nat.reduceLT,Nat.reduceEqDiff,↓sD,↓D_g,memOk,lets0,lets1,List.not_mem_nil,not_false_eq_true,true_and,and_true,sG,opV,loudV,cellsOf,strOp,evL,Nat.reduceAdd,Int.reduceBEq,Int.reduceBNe,fS49,ti3,ti49,ti9,op_cells,opCells,List.all_cons,List.all_nil,icell_int,icell_str,icell_bool,dropsW_isC,Bool.and_self,load_slice,load_int,load_str,load_bool,tag_load2,tag_load,ref_load,tag_eql,tag_neq,ref_eql,str_eql,bool_eql,load15,gt_iff_lt,ge_iff_le,tag_full,tag_fold,hg3_3,hg3_8,hg3_15]
    refine stepB_F (fun hg3_20 => ?_) (fun hg3_20 => ?_)
    ·simp only [sS,↓sT,Nat.reduceLT,Nat.reduceEqDiff,↓sD,↓D_g,memOk,lets0,lets1,List.not_mem_nil,not_false_eq_true,true_and,and_true,sG,opV,loudV,cellsOf,strOp,evL,Nat.reduceAdd,Int.reduceBEq,Int.reduceBNe,fS49,ti3,ti49,ti9,op_cells,opCells,List.all_cons,List.all_nil,icell_int,icell_str,icell_bool,dropsW_isC,Bool.and_self,load_slice,load_int,load_str,load_bool,tag_load2,tag_load,ref_load,tag_eql,tag_neq,ref_eql,str_eql,bool_eql,load15,gt_iff_lt,ge_iff_le,tag_full,tag_fold,hg3_3,hg3_8,hg3_15,hg3_20]
     refine D_callP (c_name _) (by simp only [ev_func]) (by simp only [evL,sS,↓sT,Nat.reduceLT,Nat.reduceEqDiff]; rfl) (by first | rfl | (simp only [List.map,op_bare,tag_bare,ref_bare,bare_str]; done) | (simp only [List.map,op_bare,tag_bare,ref_bare,bare_str]; exact rfl)) (by first | rfl | simp [op_noP,tag_noP,ref_noP,noP_str]) (by first | rfl | simp [op_noP,tag_noP,ref_noP,noP_str]) (by first | exact op_bare _ | rfl) ?_
     simp only [sS,↓sT,Nat.reduceLT,Nat.reduceEqDiff,↓sD,↓D_g,memOk,lets0,lets1,List.not_mem_nil,not_false_eq_true,true_and,and_true,sG,opV,loudV,cellsOf,strOp,evL,Nat.reduceAdd,Int.reduceBEq,Int.reduceBNe,fS49,ti3,ti49,ti9,op_cells,opCells,List.all_cons,List.all_nil,icell_int,icell_str,icell_bool,dropsW_isC,Bool.and_self,load_slice,load_int,load_str,load_bool,tag_load2,tag_load,ref_load,tag_eql,tag_neq,ref_eql,str_eql,bool_eql,load15,gt_iff_lt,ge_iff_le,tag_full,tag_fold,hg3_3,hg3_8,hg3_15,hg3_20]
     refine hN3 _ ?_; try clear hN3 hD3 N3
     refine WC_condE ?_
     simp only [sS,↓sT,Nat.reduceLT,Nat.reduceEqDiff,↓stepC_bool]
     refine ⟨fun hb4 => ?_,fun hb4 => ?_⟩
     ·refine WC_seqR (fun N5 hN5 hD5 => ?_)
      simp only [sS,↓sT,Nat.reduceLT,Nat.reduceEqDiff,↓sO,↓WOps_g,sG,opV,loudV,cellsOf,strOp,evL,Nat.reduceAdd,Int.reduceBEq,Int.reduceBNe,op_cells,opCells,List.all_cons,List.all_nil,icell_int,icell_str,icell_bool,dropsW_isC,Bool.and_self,load_slice,load_int,load_str,load_bool,tag_load2,tag_load,ref_load,tag_eql,tag_neq,ref_eql,str_eql,bool_eql,load15,gt_iff_lt,ge_iff_le,tag_full,tag_fold,ti3]
      refine hN5 _ ?_; try clear hN5 hD5 N5
      refine WC_ret ?_; (try simp only [Exit.after,Exit.out]); refine Kend_ret (by simp only [resOf,resL,resV,mkS_get,slots_get,cellsOf,ti3,sS,↓sT,Nat.reduceLT,Nat.reduceEqDiff]; rfl) (by first | rfl | (simp only [ti3]; done) | (simp only [ti3,okV,ok1,okC,okP,List.all_cons,List.all_nil,Bool.and_true]; done)) ?_
      clear hN2 hD2 N2
      clear hL
      first | (simp_all [rightS,keep_bool,isNil]; done) | (simp_all [rightS,keep_bool,isNil]; omega)
     ·refine WC_skip ?_
      refine hN2 _ ?_; try clear hN2 hD2 N2
      refine WC_seqN (fun N6 hN6 hD6 => ?_)
      refine WC_seqR (fun N7 hN7 hD7 => ?_)
      simp only [sS,↓sT,Nat.reduceLT,Nat.reduceEqDiff,↓sO,↓WOps_g,sG,opV,loudV,cellsOf,strOp,evL,Nat.reduceAdd,Int.reduceBEq,Int.reduceBNe,fS49,ti25,buildV,evParts,V.isCell,List.all_cons,List.all_nil,Bool.and_self,if_true,placesOf,fillV,List.getElem?_cons_zero,List.getElem?_cons_succ,List.length_cons,List.length_nil,Nat.zero_add,ne_eq,not_true_eq_false,false_or,gt_iff_lt,if_false,wrL,Option.map_some,List.set_cons_zero,List.set_cons_succ,ti2,op_cells,opCells,icell_int,icell_str,icell_bool,dropsW_isC,load_slice,load_int,load_str,load_bool,tag_load2,tag_load,ref_load,tag_eql,tag_neq,ref_eql,str_eql,bool_eql,load15,ge_iff_le,tag_full,tag_fold,ti3]
      refine WOps_callP (c_punnet_tree_Tag _ _) (by simp only [ev_func]) (by simp only [evL,sS,↓sT,Nat.reduceLT,Nat.reduceEqDiff]; rfl) (by first | rfl | (simp only [List.map,op_bare,tag_bare,ref_bare,bare_str]; done) | (simp only [List.map,op_bare,tag_bare,ref_bare,bare_str]; exact rfl)) (by first | rfl | simp [op_noP,tag_noP,ref_noP,noP_str]) (by first | rfl | simp [op_noP,tag_noP,ref_noP,noP_str]) (by first | exact op_bare _ | rfl) ?_
      simp only [sS,↓sT,Nat.reduceLT,Nat.reduceEqDiff,↓sO,↓WOps_g,sG,opV,loudV,cellsOf,strOp,evL,Nat.reduceAdd,Int.reduceBEq,Int.reduceBNe,fS49,ti25,buildV,evParts,V.isCell,List.all_cons,List.all_nil,Bool.and_self,if_true,placesOf,fillV,List.getElem?_cons_zero,List.getElem?_cons_succ,List.length_cons,List.length_nil,Nat.zero_add,ne_eq,not_true_eq_false,false_or,gt_iff_lt,if_false,wrL,Option.map_some,List.set_cons_zero,List.set_cons_succ,ti2,op_cells,opCells,icell_int,icell_str,icell_bool,dropsW_isC,load_slice,load_int,load_str,load_bool,tag_load2,tag_load,ref_load,tag_eql,tag_neq,ref_eql,str_eql,bool_eql,load15,ge_iff_le,tag_full,tag_fold,ti3]
      refine stepB_F (fun hg7_4 => ?_) (fun hg7_4 => ?_)
      ·simp only [sS,↓sT,Nat.reduceLT,Nat.reduceEqDiff,↓sO,↓WOps_g,sG,opV,loudV,cellsOf,strOp,evL,Nat.reduceAdd,Int.reduceBEq,Int.reduceBNe,fS49,ti25,buildV,evParts,V.isCell,List.all_cons,List.all_nil,Bool.and_self,if_true,placesOf,fillV,List.getElem?_cons_zero,List.getElem?_cons_succ,List.length_cons,List.length_nil,Nat.zero_add,ne_eq,not_true_eq_false,false_or,gt_iff_lt,if_false,wrL,Option.map_some,List.set_cons_zero,List.set_cons_succ,ti2,op_cells,opCells,icell_int,icell_str,icell_bool,dropsW_isC,load_slice,load_int,load_str,load_bool,tag_load2,tag_load,ref_load,tag_eql,tag_neq,ref_eql,str_eql,bool_eql,load15,ge_iff_le,tag_full,tag_fold,ti3,hg7_4]
       refine stepB_T (fun hg7_9 => ?_) (fun hg7_9 => ?_)
       ·simp only [sS,↓sT,Nat.reduceLT,Nat.reduceEqDiff,↓sO,↓WOps_g,sG,opV,loudV,cellsOf,strOp,evL,Nat.reduceAdd,Int.reduceBEq,Int.reduceBNe,fS49,ti25,buildV,evParts,V.isCell,List.all_cons,List.all_nil,Bool.and_self,if_true,placesOf,fillV,List.getElem?_cons_zero,List.getElem?_cons_succ,List.length_cons,List.length_nil,Nat.zero_add,ne_eq,not_true_eq_false,false_or,gt_iff_lt,if_false,wrL,Option.map_some,List.set_cons_zero,List.set_cons_succ,ti2,op_cells,opCells,icell_int,icell_str,icell_bool,dropsW_isC,load_slice,load_int,load_str,load_bool,tag_load2,tag_load,ref_load,tag_eql,tag_neq,ref_eql,str_eql,bool_eql,load15,ge_iff_le,tag_full,tag_fold,ti3,hg7_4,hg7_9]
        refine WOps_callP (c_punnet_tree_Tag _ _) (by simp only [ev_func]) (by simp only [evL,sS,↓sT,Nat.reduceLT,Nat.reduceEqDiff]; rfl) (by first | rfl | (simp only [List.map,op_bare,tag_bare,ref_bare,bare_str]; done) | (simp only [List.map,op_bare,tag_bare,ref_bare,bare_str]; exact rfl)) (by first | rfl | simp [op_noP,tag_noP,ref_noP,noP_str]) (by first | rfl | simp [op_noP,tag_noP,ref_noP,noP_str]) (by first | exact op_bare _ | rfl) ?_
        simp only [sS,↓sT,Nat.reduceLT,Nat.reduceEqDiff,↓sO,↓WOps_g,sG,opV,loudV,cellsOf,strOp,evL,Nat.reduceAdd,Int.reduceBEq,Int.reduceBNe,fS49,ti25,buildV,evParts,V.isCell,List.all_cons,List.all_nil,Bool.and_self,if_true,placesOf,fillV,List.getElem?_cons_zero,List.getElem?_cons_succ,List.length_cons,List.length_nil,Nat.zero_add,ne_eq,not_true_eq_false,false_or,gt_iff_lt,if_false,wrL,Option.map_some,List.set_cons_zero,List.set_cons_succ,ti2,op_cells,opCells,icell_int,icell_str,icell_bool,dropsW_isC,load_slice,load_int,load_str,load_bool,tag_load2,tag_load,ref_load,tag_eql,tag_neq,ref_eql,str_eql,bool_eql,load15,ge_iff_le,tag_full,tag_fold,ti3,hg7_4,hg7_9]
        refine stepB_F (fun hg7_16 => ?_) (fun hg7_16 => ?_)
        ·simp only [sS,↓sT,Nat.reduceLT,Nat.reduceEqDiff,↓sO,↓WOps_g,sG,opV,loudV,cellsOf,strOp,evL,Nat.reduceAdd,Int.reduceBEq,Int.reduceBNe,fS49,ti25,buildV,evParts,V.isCell,List.all_cons,List.all_nil,Bool.and_self,if_true,placesOf,fillV,List.getElem?_cons_zero,List.getElem?_cons_succ,List.length_cons,List.length_nil,Nat.zero_add,ne_eq,not_true_eq_false,false_or,gt_iff_lt,if_false,wrL,Option.map_some,List.set_cons_zero,List.set_cons_succ,ti2,op_cells,opCells,icell_int,icell_str,icell_bool,dropsW_isC,load_slice,load_int,load_str,load_bool,tag_load2,tag_load,ref_load,tag_eql,tag_neq,ref_eql,str_eql,bool_eql,load15,ge_iff_le,tag_full,tag_fold,ti3,hg7_4,hg7_9,hg7_16]
         refine stepB_F (fun hg7_21 => ?_) (fun hg7_21 => ?_)
         ·simp only [sS,↓sT,Nat.reduceLT,Nat.reduceEqDiff,↓sO,↓WOps_g,sG,opV,loudV,cellsOf,strOp,evL,Nat.reduceAdd,Int.reduceBEq,Int.reduceBNe,fS49,ti25,buildV,evParts,V.isCell,List.all_cons,List.all_nil,Bool.and_self,if_true,placesOf,fillV,List.getElem?_cons_zero,List.getElem?_cons_succ,List.length_cons,List.length_nil,Nat.zero_add,ne_eq,not_true_eq_false,false_or,gt_iff_lt,if_false,wrL,Option.map_some,List.set_cons_zero,List.set_cons_succ,ti2,op_cells,opCells,icell_int,icell_str,icell_bool,dropsW_isC,load_slice,load_int,load_str,load_bool,tag_load2,tag_load,ref_load,tag_eql,tag_neq,ref_eql,str_eql,bool_eql,load15,ge_iff_le,tag_full,tag_fold,ti3,hg7_4,hg7_9,hg7_16,hg7_21]
          refine hN7 _ ?_; try clear hN7 hD7 N7
          refine WC_condE ?_
          simp only [sS,↓sT,Nat.reduceLT,Nat.reduceEqDiff,↓stepC_bool]
          refine ⟨fun hb8 => ?_,fun hb8 => ?_⟩
          ·refine WC_seqR (fun N9 hN9 hD9 => ?_)
           simp only [sS,↓sT,Nat.reduceLT,Nat.reduceEqDiff,↓sO,↓WOps_g,sG,opV,loudV,cellsOf,strOp,evL,Nat.reduceAdd,Int.reduceBEq,Int.reduceBNe,op_cells,opCells,List.all_cons,List.all_nil,icell_int,icell_str,icell_bool,dropsW_isC,Bool.and_self,load_slice,load_int,load_str,load_bool,tag_load2,tag_load,ref_load,tag_eql,tag_neq,ref_eql,str_eql,bool_eql,load15,gt_iff_lt,ge_iff_le,tag_full,tag_fold,ti3]
           refine hN9 _ ?_; try clear hN9 hD9 N9
           refine WC_ret ?_; (try simp only [Exit.after,Exit.out]); refine Kend_ret (by simp only [resOf,resL,resV,mkS_get,slots_get,cellsOf,ti3,sS,↓sT,Nat.reduceLT,Nat.reduceEqDiff]; rfl) (by first | rfl | (simp only [ti3]; done) | (simp only [ti3,okV,ok1,okC,okP,List.all_cons,List.all_nil,Bool.and_true]; done)) ?_
           clear hN6 hD6 N6
           clear hL
           first | (simp_all [rightS,keep_bool,isNil]; done) | (simp_all [rightS,keep_bool,isNil]; omega)
          ·refine WC_skip ?_
           refine hN6 _ ?_; try clear hN6 hD6 N6
           refine WC_seqN (fun N10 hN10 hD10 => ?_)
           refine WC_seqR (fun N11 hN11 hD11 => ?_)
           simp only [sS,↓sT,Nat.reduceLT,Nat.reduceEqDiff,↓sO,↓WOps_g,sG,opV,loudV,cellsOf,strOp,evL,Nat.reduceAdd,Int.reduceBEq,Int.reduceBNe,fS49,ti3,op_cells,opCells,List.all_cons,List.all_nil,icell_int,icell_str,icell_bool,dropsW_isC,Bool.and_self,load_slice,load_int,load_str,load_bool,tag_load2,tag_load,ref_load,tag_eql,tag_neq,ref_eql,str_eql,bool_eql,load15,gt_iff_lt,ge_iff_le,tag_full,tag_fold]
           refine hN11 _ ?_; try clear hN11 hD11 N11
           refine WC_condE ?_
           simp only [sS,↓sT,Nat.reduceLT,Nat.reduceEqDiff,↓stepC_bool]
           refine ⟨fun hb12 => ?_,fun hb12 => ?_⟩
           ·refine WC_seqR (fun N13 hN13 hD13 => ?_)
            simp only [sS,↓sT,Nat.reduceLT,Nat.reduceEqDiff,↓sO,↓WOps_g,sG,opV,loudV,cellsOf,strOp,evL,Nat.reduceAdd,Int.reduceBEq,Int.reduceBNe,op_cells,opCells,List.all_cons,List.all_nil,icell_int,icell_str,icell_bool,dropsW_isC,Bool.and_self,load_slice,load_int,load_str,load_bool,tag_load2,tag_load,ref_load,tag_eql,tag_neq,ref_eql,str_eql,bool_eql,load15,gt_iff_lt,ge_iff_le,tag_full,tag_fold,ti3]
            refine hN13 _ ?_; try clear hN13 hD13 N13
            refine WC_ret ?_; (try simp only [Exit.after,Exit.out]); refine Kend_ret (by simp only [resOf,resL,resV,mkS_get,slots_get,cellsOf,ti3,sS,↓sT,Nat.reduceLT,Nat.reduceEqDiff]; rfl) (by first | rfl | (simp only [ti3]; done) | (simp only [ti3,okV,ok1,okC,okP,List.all_cons,List.all_nil,Bool.and_true]; done)) ?_
            clear hN10 hD10 N10
            clear hL
            first | (simp_all [rightS,keep_bool,isNil]; done) | (simp_all [rightS,keep_bool,isNil]; omega)
           ·refine WC_skip ?_
            refine hN10 _ ?_; try clear hN10 hD10 N10
            refine WC_seqN (fun N14 hN14 hD14 => ?_)
            refine WC_seqR (fun N15 hN15 hD15 => ?_)
            simp only [sS,↓sT,Nat.reduceLT,Nat.reduceEqDiff,↓sO,↓WOps_g,sG,opV,loudV,cellsOf,strOp,evL,Nat.reduceAdd,Int.reduceBEq,Int.reduceBNe,fS49,ti3,op_cells,opCells,List.all_cons,List.all_nil,icell_int,icell_str,icell_bool,dropsW_isC,Bool.and_self,load_slice,load_int,load_str,load_bool,tag_load2,tag_load,ref_load,tag_eql,tag_neq,ref_eql,str_eql,bool_eql,load15,gt_iff_lt,ge_iff_le,tag_full,tag_fold]
            refine stepB_F (fun hg15_3 => ?_) (fun hg15_3 => ?_)
            ·simp only [sS,↓sT,Nat.reduceLT,Nat.reduceEqDiff,↓sO,↓WOps_g,sG,opV,loudV,cellsOf,strOp,evL,Nat.reduceAdd,Int.reduceBEq,Int.reduceBNe,fS49,ti3,op_cells,opCells,List.all_cons,List.all_nil,icell_int,icell_str,icell_bool,dropsW_isC,Bool.and_self,load_slice,load_int,load_str,load_bool,tag_load2,tag_load,ref_load,tag_eql,tag_neq,ref_eql,str_eql,bool_eql,load15,gt_iff_lt,ge_iff_le,tag_full,tag_fold,hg15_3]
             refine hN15 _ ?_; try clear hN15 hD15 N15
             refine WC_condE ?_
             simp only [sS,↓sT,Nat.reduceLT,Nat.reduceEqDiff,↓stepC_bool]
             refine ⟨fun hb16 => ?_,fun hb16 => ?_⟩
             ·refine WC_seqR (fun N17 hN17 hD17 => ?_)
              simp only [sS,↓sT,Nat.reduceLT,Nat.reduceEqDiff,↓sO,↓WOps_g,sG,opV,loudV,cellsOf,strOp,evL,Nat.reduceAdd,Int.reduceBEq,Int.reduceBNe,fS49,ti9,op_cells,opCells,List.all_cons,List.all_nil,icell_int,icell_str,icell_bool,dropsW_isC,Bool.and_self,load_slice,load_int,load_str,load_bool,tag_load2,tag_load,ref_load,tag_eql,tag_neq,ref_eql,str_eql,bool_eql,load15,gt_iff_lt,ge_iff_le,tag_full,tag_fold,ti3]
              refine WOps_callP (c_name _) (by simp only [ev_func]) (by simp only [evL,sS,↓sT,Nat.reduceLT,Nat.reduceEqDiff]; rfl) (by first | rfl | (simp only [List.map,op_bare,tag_bare,ref_bare,bare_str]; done) | (simp only [List.map,op_bare,tag_bare,ref_bare,bare_str]; exact rfl)) (by first | rfl | simp [op_noP,tag_noP,ref_noP,noP_str]) (by first | rfl | simp [op_noP,tag_noP,ref_noP,noP_str]) (by first | exact op_bare _ | rfl) ?_
              simp only [sS,↓sT,Nat.reduceLT,Nat.reduceEqDiff,↓sO,↓WOps_g,sG,opV,loudV,cellsOf,strOp,evL,Nat.reduceAdd,Int.reduceBEq,Int.reduceBNe,fS49,ti9,op_cells,opCells,List.all_cons,List.all_nil,icell_int,icell_str,icell_bool,dropsW_isC,Bool.and_self,load_slice,load_int,load_str,load_bool,tag_load2,tag_load,ref_load,tag_eql,tag_neq,ref_eql,str_eql,bool_eql,load15,gt_iff_lt,ge_iff_le,tag_full,tag_fold,ti3]
              refine hN17 _ ?_; try clear hN17 hD17 N17
              refine WC_ret ?_; (try simp only [Exit.after,Exit.out]); refine Kend_ret (by simp only [resOf,resL,resV,mkS_get,slots_get,cellsOf,ti3,sS,↓sT,Nat.reduceLT,Nat.reduceEqDiff]; rfl) (by first | rfl | (simp only [ti3]; done) | (simp only [ti3,okV,ok1,okC,okP,List.all_cons,List.all_nil,Bool.and_true]; done)) ?_
              clear hN14 hD14 N14
              clear hL
              first | (simp_all [rightS,keep_bool,isNil]; done) | (simp_all [rightS,keep_bool,isNil]; omega)
             ·refine WC_skip ?_
              refine hN14 _ ?_; try clear hN14 hD14 N14
              refine WC_seqR (fun N18 hN18 hD18 => ?_)
              simp only [sS,↓sT,Nat.reduceLT,Nat.reduceEqDiff,↓sO,↓WOps_g,sG,opV,loudV,cellsOf,strOp,evL,Nat.reduceAdd,Int.reduceBEq,Int.reduceBNe,fS49,fS47,ti3,ti9,op_cells,opCells,List.all_cons,List.all_nil,icell_int,icell_str,icell_bool,dropsW_isC,Bool.and_self,load_slice,load_int,load_str,load_bool,tag_load2,tag_load,ref_load,tag_eql,tag_neq,ref_eql,str_eql,bool_eql,load15,gt_iff_lt,ge_iff_le,tag_full,tag_fold]
              refine stepB_F (fun hg18_4 => ?_) (fun hg18_4 => ?_)
              ·simp only [sS,↓sT,Nat.reduceLT,Nat.reduceEqDiff,↓sO,↓WOps_g,sG,opV,loudV,cellsOf,strOp,evL,Nat.reduceAdd,Int.reduceBEq,Int.reduceBNe,fS49,fS47,ti3,ti9,op_cells,opCells,List.all_cons,List.all_nil,icell_int,icell_str,icell_bool,dropsW_isC,Bool.and_self,load_slice,load_int,load_str,load_bool,tag_load2,tag_load,ref_load,tag_eql,tag_neq,ref_eql,str_eql,bool_eql,load15,gt_iff_lt,ge_iff_le,tag_full,tag_fold,hg18_4]
               refine WOps_callP (c_name _) (by simp only [ev_func]) (by simp only [evL,sS,↓sT,Nat.reduceLT,Nat.reduceEqDiff]; rfl) (by first | rfl | (simp only [List.map,op_bare,tag_bare,ref_bare,bare_str]; done) | (simp only [List.map,op_bare,tag_bare,ref_bare,bare_str]; exact rfl)) (by first | rfl | simp [op_noP,tag_noP,ref_noP,noP_str]) (by first | rfl | simp [op_noP,tag_noP,ref_noP,noP_str]) (by first | exact op_bare _ | rfl) ?_
               simp only [sS,↓sT,Nat.reduceLT,Nat.reduceEqDiff,↓sO,↓WOps_g,sG,opV,loudV,cellsOf,strOp,evL,Nat.reduceAdd,Int.reduceBEq,Int.reduceBNe,fS49,fS47,ti3,ti9,op_cells,opCells,List.all_cons,List.all_nil,icell_int,icell_str,icell_bool,dropsW_isC,Bool.and_self,load_slice,load_int,load_str,load_bool,tag_load2,tag_load,ref_load,tag_eql,tag_neq,ref_eql,str_eql,bool_eql,load15,gt_iff_lt,ge_iff_le,tag_full,tag_fold,hg18_4]
               refine hN18 _ ?_; try clear hN18 hD18 N18
               refine WC_seqR (fun N19 hN19 hD19 => ?_)
               simp only [sS,↓sT,Nat.reduceLT,Nat.reduceEqDiff,↓sO,↓WOps_g,sG,opV,loudV,cellsOf,strOp,evL,Nat.reduceAdd,Int.reduceBEq,Int.reduceBNe,fS49,ti47,ti2,ti9,op_cells,opCells,List.all_cons,List.all_nil,icell_int,icell_str,icell_bool,dropsW_isC,Bool.and_self,load_slice,load_int,load_str,load_bool,tag_load2,tag_load,ref_load,tag_eql,tag_neq,ref_eql,str_eql,bool_eql,load15,gt_iff_lt,ge_iff_le,tag_full,tag_fold,ti3]
               refine stepB_T (fun hg19_1 => ?_) (fun hg19_1 => ?_)
               ·simp only [sS,↓sT,Nat.reduceLT,Nat.reduceEqDiff,↓sO,↓WOps_g,sG,opV,loudV,cellsOf,strOp,evL,Nat.reduceAdd,Int.reduceBEq,Int.reduceBNe,fS49,ti47,ti2,ti9,op_cells,opCells,List.all_cons,List.all_nil,icell_int,icell_str,icell_bool,dropsW_isC,Bool.and_self,load_slice,load_int,load_str,load_bool,tag_load2,tag_load,ref_load,tag_eql,tag_neq,ref_eql,str_eql,bool_eql,load15,gt_iff_lt,ge_iff_le,tag_full,tag_fold,ti3,hg19_1]
                refine WOps_callP (c_punnet_field_Place _ _ _) (by simp only [ev_func]) (by simp only [evL,sS,↓sT,Nat.reduceLT,Nat.reduceEqDiff]; rfl) (by first | rfl | (simp only [List.map,op_bare,tag_bare,ref_bare,bare_str]; done) | (simp only [List.map,op_bare,tag_bare,ref_bare,bare_str]; exact rfl)) (by first | rfl | simp [op_noP,tag_noP,ref_noP,noP_str]) (by first | rfl | simp [op_noP,tag_noP,ref_noP,noP_str]) (by first | exact op_bare _ | rfl) ?_
                simp only [sS,↓sT,Nat.reduceLT,Nat.reduceEqDiff,↓sO,↓WOps_g,sG,opV,loudV,cellsOf,strOp,evL,Nat.reduceAdd,Int.reduceBEq,Int.reduceBNe,fS49,ti47,ti2,ti9,op_cells,opCells,List.all_cons,List.all_nil,icell_int,icell_str,icell_bool,dropsW_isC,Bool.and_self,load_slice,load_int,load_str,load_bool,tag_load2,tag_load,ref_load,tag_eql,tag_neq,ref_eql,str_eql,bool_eql,load15,gt_iff_lt,ge_iff_le,tag_full,tag_fold,ti3,hg19_1]
                refine stepB_T (fun hg19_6 => ?_) (fun hg19_6 => ?_)
                ·simp only [sS,↓sT,Nat.reduceLT,Nat.reduceEqDiff,↓sO,↓WOps_g,sG,opV,loudV,cellsOf,strOp,evL,Nat.reduceAdd,Int.reduceBEq,Int.reduceBNe,fS49,ti47,ti2,ti9,op_cells,opCells,List.all_cons,List.all_nil,icell_int,icell_str,icell_bool,dropsW_isC,Bool.and_self,load_slice,load_int,load_str,load_bool,tag_load2,tag_load,ref_load,tag_eql,tag_neq,ref_eql,str_eql,bool_eql,load15,gt_iff_lt,ge_iff_le,tag_full,tag_fold,ti3,hg19_1,hg19_6]
                 refine stepB_T (fun hg19_11 => ?_) (fun hg19_11 => ?_)
                 ·simp only [sS,↓sT,Nat.reduceLT,Nat.reduceEqDiff,↓sO,↓WOps_g,sG,opV,loudV,cellsOf,strOp,evL,Nat.reduceAdd,Int.reduceBEq,Int.reduceBNe,fS49,ti47,ti2,ti9,op_cells,opCells,List.all_cons,List.all_nil,icell_int,icell_str,icell_bool,dropsW_isC,Bool.and_self,load_slice,load_int,load_str,load_bool,tag_load2,tag_load,ref_load,tag_eql,tag_neq,ref_eql,str_eql,bool_eql,load15,gt_iff_lt,ge_iff_le,tag_full,tag_fold,ti3,hg19_1,hg19_6,hg19_11]
                  refine stepB_T (fun hg19_16 => ?_) (fun hg19_16 => ?_)
                  ·simp only [sS,↓sT,Nat.reduceLT,Nat.reduceEqDiff,↓sO,↓WOps_g,sG,opV,loudV,cellsOf,strOp,evL,Nat.reduceAdd,Int.reduceBEq,Int.reduceBNe,fS49,ti47,ti2,ti9,op_cells,opCells,List.all_cons,List.all_nil,icell_int,icell_str,icell_bool,dropsW_isC,Bool.and_self,load_slice,load_int,load_str,load_bool,tag_load2,tag_load,ref_load,tag_eql,tag_neq,ref_eql,str_eql,bool_eql,load15,gt_iff_lt,ge_iff_le,tag_full,tag_fold,ti3,hg19_1,hg19_6,hg19_11,hg19_16]
                   refine WOps_callP (c_punnet_name_Text _) (by simp only [ev_func]) (by simp only [evL,sS,↓sT,Nat.reduceLT,Nat.reduceEqDiff]; rfl) (by first | rfl | (simp only [List.map,op_bare,tag_bare,ref_bare,bare_str]; done) | (simp only [List.map,op_bare,tag_bare,ref_bare,bare_str]; exact rfl)) (by first | rfl | simp [op_noP,tag_noP,ref_noP,noP_str]) (by first | rfl | simp [op_noP,tag_noP,ref_noP,noP_str]) (by first | exact op_bare _ | rfl) ?_
                   simp only [sS,↓sT,Nat.reduceLT,Nat.reduceEqDiff,↓sO,↓WOps_g,sG,opV,loudV,cellsOf,strOp,evL,Nat.reduceAdd,Int.reduceBEq,Int.reduceBNe,fS49,ti47,ti2,ti9,op_cells,opCells,List.all_cons,List.all_nil,icell_int,icell_str,icell_bool,dropsW_isC,Bool.and_self,load_slice,load_int,load_str,load_bool,tag_load2,tag_load,ref_load,tag_eql,tag_neq,ref_eql,str_eql,bool_eql,load15,gt_iff_lt,ge_iff_le,tag_full,tag_fold,ti3,hg19_1,hg19_6,hg19_11,hg19_16]
                   refine hN19 _ ?_; try clear hN19 hD19 N19
                   refine WC_ret ?_; (try simp only [Exit.after,Exit.out]); refine Kend_ret (by simp only [resOf,resL,resV,mkS_get,slots_get,cellsOf,ti3,sS,↓sT,Nat.reduceLT,Nat.reduceEqDiff]; rfl) (by first | rfl | (simp only [ti3]; done) | (simp only [ti3,okV,ok1,okC,okP,List.all_cons,List.all_nil,Bool.and_true]; done)) ?_
                   clear hL
                   first | (simp_all [rightS,keep_bool,isNil]; done) | (simp_all [rightS,keep_bool,isNil]; omega)
                  ·simp only [sS,↓sT,Nat.reduceLT,Nat.reduceEqDiff,↓sO,↓WOps_g,sG,opV,loudV,cellsOf,strOp,evL,Nat.reduceAdd,Int.reduceBEq,Int.reduceBNe,fS49,ti47,ti2,ti9,op_cells,opCells,List.all_cons,List.all_nil,icell_int,icell_str,icell_bool,dropsW_isC,Bool.and_self,load_slice,load_int,load_str,load_bool,tag_load2,tag_load,ref_load,tag_eql,tag_neq,ref_eql,str_eql,bool_eql,load15,gt_iff_lt,ge_iff_le,tag_full,tag_fold,ti3,hg19_1,hg19_6,hg19_11,hg19_16]
                   refine hN19 _ ?_; try clear hN19 hD19 N19
                   refine WC_ret ?_; (try simp only [Exit.after,Exit.out]); refine Kend_ret (by simp only [resOf,resL,resV,mkS_get,slots_get,cellsOf,ti3,sS,↓sT,Nat.reduceLT,Nat.reduceEqDiff]; rfl) (by first | rfl | (simp only [ti3]; done) | (simp only [ti3,okV,ok1,okC,okP,List.all_cons,List.all_nil,Bool.and_true]; done)) ?_
                   clear hL
                   first | (simp_all [rightS,keep_bool,isNil]; done) | (simp_all [rightS,keep_bool,isNil]; omega)
                 ·simp only [sS,↓sT,Nat.reduceLT,Nat.reduceEqDiff,↓sO,↓WOps_g,sG,opV,loudV,cellsOf,strOp,evL,Nat.reduceAdd,Int.reduceBEq,Int.reduceBNe,fS49,ti47,ti2,ti9,op_cells,opCells,List.all_cons,List.all_nil,icell_int,icell_str,icell_bool,dropsW_isC,Bool.and_self,load_slice,load_int,load_str,load_bool,tag_load2,tag_load,ref_load,tag_eql,tag_neq,ref_eql,str_eql,bool_eql,load15,gt_iff_lt,ge_iff_le,tag_full,tag_fold,ti3,hg19_1,hg19_6,hg19_11]
                  refine hN19 _ ?_; try clear hN19 hD19 N19
                  refine WC_ret ?_; (try simp only [Exit.after,Exit.out]); refine Kend_ret (by simp only [resOf,resL,resV,mkS_get,slots_get,cellsOf,ti3,sS,↓sT,Nat.reduceLT,Nat.reduceEqDiff]; rfl) (by first | rfl | (simp only [ti3]; done) | (simp only [ti3,okV,ok1,okC,okP,List.all_cons,List.all_nil,Bool.and_true]; done)) ?_
                  clear hL
                  first | (simp_all [rightS,keep_bool,isNil]; done) | (simp_all [rightS,keep_bool,isNil]; omega)
                ·simp only [sS,↓sT,Nat.reduceLT,Nat.reduceEqDiff,↓sO,↓WOps_g,sG,opV,loudV,cellsOf,strOp,evL,Nat.reduceAdd,Int.reduceBEq,Int.reduceBNe,fS49,ti47,ti2,ti9,op_cells,opCells,List.all_cons,List.all_nil,icell_int,icell_str,icell_bool,dropsW_isC,Bool.and_self,load_slice,load_int,load_str,load_bool,tag_load2,tag_load,ref_load,tag_eql,tag_neq,ref_eql,str_eql,bool_eql,load15,gt_iff_lt,ge_iff_le,tag_full,tag_fold,ti3,hg19_1,hg19_6]
                 refine hN19 _ ?_; try clear hN19 hD19 N19
                 refine WC_ret ?_; (try simp only [Exit.after,Exit.out]); refine Kend_ret (by simp only [resOf,resL,resV,mkS_get,slots_get,cellsOf,ti3,sS,↓sT,Nat.reduceLT,Nat.reduceEqDiff]; rfl) (by first | rfl | (simp only [ti3]; done) | (simp only [ti3,okV,ok1,okC,okP,List.all_cons,List.all_nil,Bool.and_true]; done)) ?_
                 clear hL
                 first | (simp_all [rightS,keep_bool,isNil]; done) | (simp_all [rightS,keep_bool,isNil]; omega)
               ·simp only [sS,↓sT,Nat.reduceLT,Nat.reduceEqDiff,↓sO,↓WOps_g,sG,opV,loudV,cellsOf,strOp,evL,Nat.reduceAdd,Int.reduceBEq,Int.reduceBNe,fS49,ti47,ti2,ti9,op_cells,opCells,List.all_cons,List.all_nil,icell_int,icell_str,icell_bool,dropsW_isC,Bool.and_self,load_slice,load_int,load_str,load_bool,tag_load2,tag_load,ref_load,tag_eql,tag_neq,ref_eql,str_eql,bool_eql,load15,gt_iff_lt,ge_iff_le,tag_full,tag_fold,ti3,hg19_1]
                refine hN19 _ ?_; try clear hN19 hD19 N19
                refine WC_ret ?_; (try simp only [Exit.after,Exit.out]); refine Kend_ret (by simp only [resOf,resL,resV,mkS_get,slots_get,cellsOf,ti3,sS,↓sT,Nat.reduceLT,Nat.reduceEqDiff]; rfl) (by first | rfl | (simp only [ti3]; done) | (simp only [ti3,okV,ok1,okC,okP,List.all_cons,List.all_nil,Bool.and_true]; done)) ?_
                clear hL
                first | (simp_all [rightS,keep_bool,isNil]; done) | (simp_all [rightS,keep_bool,isNil]; omega)
              ·simp only [sS,↓sT,Nat.reduceLT,Nat.reduceEqDiff,↓sO,↓WOps_g,sG,opV,loudV,cellsOf,strOp,evL,Nat.reduceAdd,Int.reduceBEq,Int.reduceBNe,fS49,fS47,ti3,ti9,op_cells,opCells,List.all_cons,List.all_nil,icell_int,icell_str,icell_bool,dropsW_isC,Bool.and_self,load_slice,load_int,load_str,load_bool,tag_load2,tag_load,ref_load,tag_eql,tag_neq,ref_eql,str_eql,bool_eql,load15,gt_iff_lt,ge_iff_le,tag_full,tag_fold,hg18_4]
               refine hN18 _ ?_; try clear hN18 hD18 N18
               refine WC_seqR (fun N20 hN20 hD20 => ?_)
               simp only [sS,↓sT,Nat.reduceLT,Nat.reduceEqDiff,↓sO,↓WOps_g,sG,opV,loudV,cellsOf,strOp,evL,Nat.reduceAdd,Int.reduceBEq,Int.reduceBNe,fS49,ti47,ti2,ti9,op_cells,opCells,List.all_cons,List.all_nil,icell_int,icell_str,icell_bool,dropsW_isC,Bool.and_self,load_slice,load_int,load_str,load_bool,tag_load2,tag_load,ref_load,tag_eql,tag_neq,ref_eql,str_eql,bool_eql,load15,gt_iff_lt,ge_iff_le,tag_full,tag_fold,ti3]
               refine WOps_callP (c_punnet_field_Place _ _ _) (by simp only [ev_func]) (by simp only [evL,sS,↓sT,Nat.reduceLT,Nat.reduceEqDiff]; rfl) (by first | rfl | (simp only [List.map,op_bare,tag_bare,ref_bare,bare_str]; done) | (simp only [List.map,op_bare,tag_bare,ref_bare,bare_str]; exact rfl)) (by first | rfl | simp [op_noP,tag_noP,ref_noP,noP_str]) (by first | rfl | simp [op_noP,tag_noP,ref_noP,noP_str]) (by first | exact op_bare _ | rfl) ?_
               simp only [sS,↓sT,Nat.reduceLT,Nat.reduceEqDiff,↓sO,↓WOps_g,sG,opV,loudV,cellsOf,strOp,evL,Nat.reduceAdd,Int.reduceBEq,Int.reduceBNe,fS49,ti47,ti2,ti9,op_cells,opCells,List.all_cons,List.all_nil,icell_int,icell_str,icell_bool,dropsW_isC,Bool.and_self,load_slice,load_int,load_str,load_bool,tag_load2,tag_load,ref_load,tag_eql,tag_neq,ref_eql,str_eql,bool_eql,load15,gt_iff_lt,ge_iff_le,tag_full,tag_fold,ti3]
               refine stepB_T (fun hg20_6 => ?_) (fun hg20_6 => ?_)
               ·simp only [sS,↓sT,Nat.reduceLT,Nat.reduceEqDiff,↓sO,↓WOps_g,sG,opV,loudV,cellsOf,strOp,evL,Nat.reduceAdd,Int.reduceBEq,Int.reduceBNe,fS49,ti47,ti2,ti9,op_cells,opCells,List.all_cons,List.all_nil,icell_int,icell_str,icell_bool,dropsW_isC,Bool.and_self,load_slice,load_int,load_str,load_bool,tag_load2,tag_load,ref_load,tag_eql,tag_neq,ref_eql,str_eql,bool_eql,load15,gt_iff_lt,ge_iff_le,tag_full,tag_fold,ti3,hg20_6]
                refine stepB_T (fun hg20_11 => ?_) (fun hg20_11 => ?_)
                ·simp only [sS,↓sT,Nat.reduceLT,Nat.reduceEqDiff,↓sO,↓WOps_g,sG,opV,loudV,cellsOf,strOp,evL,Nat.reduceAdd,Int.reduceBEq,Int.reduceBNe,fS49,ti47,ti2,ti9,op_cells,opCells,List.all_cons,List.all_nil,icell_int,icell_str,icell_bool,dropsW_isC,Bool.and_self,load_slice,load_int,load_str,load_bool,tag_load2,tag_load,ref_load,tag_eql,tag_neq,ref_eql,str_eql,bool_eql,load15,gt_iff_lt,ge_iff_le,tag_full,tag_fold,ti3,hg20_6,hg20_11]
                 refine stepB_T (fun hg20_16 => ?_) (fun hg20_16 => ?_)
                 ·simp only [sS,↓sT,Nat.reduceLT,Nat.reduceEqDiff,↓sO,↓WOps_g,sG,opV,loudV,cellsOf,strOp,evL,Nat.reduceAdd,Int.reduceBEq,Int.reduceBNe,fS49,ti47,ti2,ti9,op_cells,opCells,List.all_cons,List.all_nil,icell_int,icell_str,icell_bool,dropsW_isC,Bool.and_self,load_slice,load_int,load_str,load_bool,tag_load2,tag_load,ref_load,tag_eql,tag_neq,ref_eql,str_eql,bool_eql,load15,gt_iff_lt,ge_iff_le,tag_full,tag_fold,ti3,hg20_6,hg20_11,hg20_16]
                  refine WOps_callP (c_punnet_name_Text _) (by simp only [ev_func]) (by simp only [evL,sS,↓sT,Nat.reduceLT,Nat.reduceEqDiff]; rfl) (by first | rfl | (simp only [List.map,op_bare,tag_bare,ref_bare,bare_str]; done) | (simp only [List.map,op_bare,tag_bare,ref_bare,bare_str]; exact rfl)) (by first | rfl | simp [op_noP,tag_noP,ref_noP,noP_str]) (by first | rfl | simp [op_noP,tag_noP,ref_noP,noP_str]) (by first | exact op_bare _ | rfl) ?_
                  simp only [sS,↓sT,Nat.reduceLT,Nat.reduceEqDiff,↓sO,↓WOps_g,sG,opV,loudV,cellsOf,strOp,evL,Nat.reduceAdd,Int.reduceBEq,Int.reduceBNe,fS49,ti47,ti2,ti9,op_cells,opCells,List.all_cons,List.all_nil,icell_int,icell_str,icell_bool,dropsW_isC,Bool.and_self,load_slice,load_int,load_str,load_bool,tag_load2,tag_load,ref_load,tag_eql,tag_neq,ref_eql,str_eql,bool_eql,load15,gt_iff_lt,ge_iff_le,tag_full,tag_fold,ti3,hg20_6,hg20_11,hg20_16]
                  refine hN20 _ ?_; try clear hN20 hD20 N20
                  refine WC_ret ?_; (try simp only [Exit.after,Exit.out]); refine Kend_ret (by simp only [resOf,resL,resV,mkS_get,slots_get,cellsOf,ti3,sS,↓sT,Nat.reduceLT,Nat.reduceEqDiff]; rfl) (by first | rfl | (simp only [ti3]; done) | (simp only [ti3,okV,ok1,okC,okP,List.all_cons,List.all_nil,Bool.and_true]; done)) ?_
                  clear hL
                  first | (simp_all [rightS,keep_bool,isNil]; done) | (simp_all [rightS,keep_bool,isNil]; omega)
                 ·simp only [sS,↓sT,Nat.reduceLT,Nat.reduceEqDiff,↓sO,↓WOps_g,sG,opV,loudV,cellsOf,strOp,evL,Nat.reduceAdd,Int.reduceBEq,Int.reduceBNe,fS49,ti47,ti2,ti9,op_cells,opCells,List.all_cons,List.all_nil,icell_int,icell_str,icell_bool,dropsW_isC,Bool.and_self,load_slice,load_int,load_str,load_bool,tag_load2,tag_load,ref_load,tag_eql,tag_neq,ref_eql,str_eql,bool_eql,load15,gt_iff_lt,ge_iff_le,tag_full,tag_fold,ti3,hg20_6,hg20_11,hg20_16]
                  refine hN20 _ ?_; try clear hN20 hD20 N20
                  refine WC_ret ?_; (try simp only [Exit.after,Exit.out]); refine Kend_ret (by simp only [resOf,resL,resV,mkS_get,slots_get,cellsOf,ti3,sS,↓sT,Nat.reduceLT,Nat.reduceEqDiff]; rfl) (by first | rfl | (simp only [ti3]; done) | (simp only [ti3,okV,ok1,okC,okP,List.all_cons,List.all_nil,Bool.and_true]; done)) ?_
                  clear hL
                  first | (simp_all [rightS,keep_bool,isNil]; done) | (simp_all [rightS,keep_bool,isNil]; omega)
                ·simp only [sS,↓sT,Nat.reduceLT,Nat.reduceEqDiff,↓sO,↓WOps_g,sG,opV,loudV,cellsOf,strOp,evL,Nat.reduceAdd,Int.reduceBEq,Int.reduceBNe,fS49,ti47,ti2,ti9,op_cells,opCells,List.all_cons,List.all_nil,icell_int,icell_str,icell_bool,dropsW_isC,Bool.and_self,load_slice,load_int,load_str,load_bool,tag_load2,tag_load,ref_load,tag_eql,tag_neq,ref_eql,str_eql,bool_eql,load15,gt_iff_lt,ge_iff_le,tag_full,tag_fold,ti3,hg20_6,hg20_11]
                 refine hN20 _ ?_; try clear hN20 hD20 N20
                 refine WC_ret ?_; (try simp only [Exit.after,Exit.out]); refine Kend_ret (by simp only [resOf,resL,resV,mkS_get,slots_get,cellsOf,ti3,sS,↓sT,Nat.reduceLT,Nat.reduceEqDiff]; rfl) (by first | rfl | (simp only [ti3]; done) | (simp only [ti3,okV,ok1,okC,okP,List.all_cons,List.all_nil,Bool.and_true]; done)) ?_
                 clear hL
                 first | (simp_all [rightS,keep_bool,isNil]; done) | (simp_all [rightS,keep_bool,isNil]; omega)
               ·simp only [sS,↓sT,Nat.reduceLT,Nat.reduceEqDiff,↓sO,↓WOps_g,sG,opV,loudV,cellsOf,strOp,evL,Nat.reduceAdd,Int.reduceBEq,Int.reduceBNe,fS49,ti47,ti2,ti9,op_cells,opCells,List.all_cons,List.all_nil,icell_int,icell_str,icell_bool,dropsW_isC,Bool.and_self,load_slice,load_int,load_str,load_bool,tag_load2,tag_load,ref_load,tag_eql,tag_neq,ref_eql,str_eql,bool_eql,load15,gt_iff_lt,ge_iff_le,tag_full,tag_fold,ti3,hg20_6]
                refine hN20 _ ?_; try clear hN20 hD20 N20
                refine WC_ret ?_; (try simp only [Exit.after,Exit.out]); refine Kend_ret (by simp only [resOf,resL,resV,mkS_get,slots_get,cellsOf,ti3,sS,↓sT,Nat.reduceLT,Nat.reduceEqDiff]; rfl) (by first | rfl | (simp only [ti3]; done) | (simp only [ti3,okV,ok1,okC,okP,List.all_cons,List.all_nil,Bool.and_true]; done)) ?_
                clear hL
                first | (simp_all [rightS,keep_bool,isNil]; done) | (simp_all [rightS,keep_bool,isNil]; omega)
            ·simp only [sS,↓sT,Nat.reduceLT,Nat.reduceEqDiff,↓sO,↓WOps_g,sG,opV,loudV,cellsOf,strOp,evL,Nat.reduceAdd,Int.reduceBEq,Int.reduceBNe,fS49,ti3,op_cells,opCells,List.all_cons,List.all_nil,icell_int,icell_str,icell_bool,dropsW_isC,Bool.and_self,load_slice,load_int,load_str,load_bool,tag_load2,tag_load,ref_load,tag_eql,tag_neq,ref_eql,str_eql,bool_eql,load15,gt_iff_lt,ge_iff_le,tag_full,tag_fold,hg15_3]
             refine hN15 _ ?_; try clear hN15 hD15 N15
             refine WC_condE ?_
             simp only [sS,↓sT,Nat.reduceLT,Nat.reduceEqDiff,↓stepC_bool]
             refine ⟨fun hb => ?_,fun hb => (by cases hb)⟩
             refine WC_seqR (fun N21 hN21 hD21 => ?_)
             simp only [sS,↓sT,Nat.reduceLT,Nat.reduceEqDiff,↓sO,↓WOps_g,sG,opV,loudV,cellsOf,strOp,evL,Nat.reduceAdd,Int.reduceBEq,Int.reduceBNe,fS49,ti9,op_cells,opCells,List.all_cons,List.all_nil,icell_int,icell_str,icell_bool,dropsW_isC,Bool.and_self,load_slice,load_int,load_str,load_bool,tag_load2,tag_load,ref_load,tag_eql,tag_neq,ref_eql,str_eql,bool_eql,load15,gt_iff_lt,ge_iff_le,tag_full,tag_fold,ti3]
             refine WOps_callP (c_name _) (by simp only [ev_func]) (by simp only [evL,sS,↓sT,Nat.reduceLT,Nat.reduceEqDiff]; rfl) (by first | rfl | (simp only [List.map,op_bare,tag_bare,ref_bare,bare_str]; done) | (simp only [List.map,op_bare,tag_bare,ref_bare,bare_str]; exact rfl)) (by first | rfl | simp [op_noP,tag_noP,ref_noP,noP_str]) (by first | rfl | simp [op_noP,tag_noP,ref_noP,noP_str]) (by first | exact op_bare _ | rfl) ?_
             simp only [sS,↓sT,Nat.reduceLT,Nat.reduceEqDiff,↓sO,↓WOps_g,sG,opV,loudV,cellsOf,strOp,evL,Nat.reduceAdd,Int.reduceBEq,Int.reduceBNe,fS49,ti9,op_cells,opCells,List.all_cons,List.all_nil,icell_int,icell_str,icell_bool,dropsW_isC,Bool.and_self,load_slice,load_int,load_str,load_bool,tag_load2,tag_load,ref_load,tag_eql,tag_neq,ref_eql,str_eql,bool_eql,load15,gt_iff_lt,ge_iff_le,tag_full,tag_fold,ti3]
             refine hN21 _ ?_; try clear hN21 hD21 N21
             refine WC_ret ?_; (try simp only [Exit.after,Exit.out]); refine Kend_ret (by simp only [resOf,resL,resV,mkS_get,slots_get,cellsOf,ti3,sS,↓sT,Nat.reduceLT,Nat.reduceEqDiff]; rfl) (by first | rfl | (simp only [ti3]; done) | (simp only [ti3,okV,ok1,okC,okP,List.all_cons,List.all_nil,Bool.and_true]; done)) ?_
             clear hN14 hD14 N14
             clear hL
             first | (simp_all [rightS,keep_bool,isNil]; done) | (simp_all [rightS,keep_bool,isNil]; omega)
         ·simp only [sS,↓sT,Nat.reduceLT,Nat.reduceEqDiff,↓sO,↓WOps_g,sG,opV,loudV,cellsOf,strOp,evL,Nat.reduceAdd,Int.reduceBEq,Int.reduceBNe,fS49,ti25,buildV,evParts,V.isCell,List.all_cons,List.all_nil,Bool.and_self,if_true,placesOf,fillV,List.getElem?_cons_zero,List.getElem?_cons_succ,List.length_cons,List.length_nil,Nat.zero_add,ne_eq,not_true_eq_false,false_or,gt_iff_lt,if_false,wrL,Option.map_some,List.set_cons_zero,List.set_cons_succ,ti2,op_cells,opCells,icell_int,icell_str,icell_bool,dropsW_isC,load_slice,load_int,load_str,load_bool,tag_load2,tag_load,ref_load,tag_eql,tag_neq,ref_eql,str_eql,bool_eql,load15,ge_iff_le,tag_full,tag_fold,ti3,hg7_4,hg7_9,hg7_16,hg7_21]
          refine hN7 _ ?_; try clear hN7 hD7 N7
          refine WC_condE ?_
          simp only [sS,↓sT,Nat.reduceLT,Nat.reduceEqDiff,↓stepC_bool]
          refine ⟨fun hb => ?_,fun hb => (by cases hb)⟩
          refine WC_seqR (fun N22 hN22 hD22 => ?_)
          simp only [sS,↓sT,Nat.reduceLT,Nat.reduceEqDiff,↓sO,↓WOps_g,sG,opV,loudV,cellsOf,strOp,evL,Nat.reduceAdd,Int.reduceBEq,Int.reduceBNe,op_cells,opCells,List.all_cons,List.all_nil,icell_int,icell_str,icell_bool,dropsW_isC,Bool.and_self,load_slice,load_int,load_str,load_bool,tag_load2,tag_load,ref_load,tag_eql,tag_neq,ref_eql,str_eql,bool_eql,load15,gt_iff_lt,ge_iff_le,tag_full,tag_fold,ti3]
          refine hN22 _ ?_; try clear hN22 hD22 N22
          refine WC_ret ?_; (try simp only [Exit.after,Exit.out]); refine Kend_ret (by simp only [resOf,resL,resV,mkS_get,slots_get,cellsOf,ti3,sS,↓sT,Nat.reduceLT,Nat.reduceEqDiff]; rfl) (by first | rfl | (simp only [ti3]; done) | (simp only [ti3,okV,ok1,okC,okP,List.all_cons,List.all_nil,Bool.and_true]; done)) ?_
          clear hN6 hD6 N6
          clear hL
          first | (simp_all [rightS,keep_bool,isNil]; done) | (simp_all [rightS,keep_bool,isNil]; omega)
        ·simp only [sS,↓sT,Nat.reduceLT,Nat.reduceEqDiff,↓sO,↓WOps_g,sG,opV,loudV,cellsOf,strOp,evL,Nat.reduceAdd,Int.reduceBEq,Int.reduceBNe,fS49,ti25,buildV,evParts,V.isCell,List.all_cons,List.all_nil,Bool.and_self,if_true,placesOf,fillV,List.getElem?_cons_zero,List.getElem?_cons_succ,List.length_cons,List.length_nil,Nat.zero_add,ne_eq,not_true_eq_false,false_or,gt_iff_lt,if_false,wrL,Option.map_some,List.set_cons_zero,List.set_cons_succ,ti2,op_cells,opCells,icell_int,icell_str,icell_bool,dropsW_isC,load_slice,load_int,load_str,load_bool,tag_load2,tag_load,ref_load,tag_eql,tag_neq,ref_eql,str_eql,bool_eql,load15,ge_iff_le,tag_full,tag_fold,ti3,hg7_4,hg7_9,hg7_16]
         refine hN7 _ ?_; try clear hN7 hD7 N7
         refine WC_condE ?_
         simp only [sS,↓sT,Nat.reduceLT,Nat.reduceEqDiff,↓stepC_bool]
         refine ⟨fun hb => ?_,fun hb => (by cases hb)⟩
         refine WC_seqR (fun N23 hN23 hD23 => ?_)
         simp only [sS,↓sT,Nat.reduceLT,Nat.reduceEqDiff,↓sO,↓WOps_g,sG,opV,loudV,cellsOf,strOp,evL,Nat.reduceAdd,Int.reduceBEq,Int.reduceBNe,op_cells,opCells,List.all_cons,List.all_nil,icell_int,icell_str,icell_bool,dropsW_isC,Bool.and_self,load_slice,load_int,load_str,load_bool,tag_load2,tag_load,ref_load,tag_eql,tag_neq,ref_eql,str_eql,bool_eql,load15,gt_iff_lt,ge_iff_le,tag_full,tag_fold,ti3]
         refine hN23 _ ?_; try clear hN23 hD23 N23
         refine WC_ret ?_; (try simp only [Exit.after,Exit.out]); refine Kend_ret (by simp only [resOf,resL,resV,mkS_get,slots_get,cellsOf,ti3,sS,↓sT,Nat.reduceLT,Nat.reduceEqDiff]; rfl) (by first | rfl | (simp only [ti3]; done) | (simp only [ti3,okV,ok1,okC,okP,List.all_cons,List.all_nil,Bool.and_true]; done)) ?_
         clear hN6 hD6 N6
         clear hL
         first | (simp_all [rightS,keep_bool,isNil]; done) | (simp_all [rightS,keep_bool,isNil]; omega)
       ·simp only [sS,↓sT,Nat.reduceLT,Nat.reduceEqDiff,↓sO,↓WOps_g,sG,opV,loudV,cellsOf,strOp,evL,Nat.reduceAdd,Int.reduceBEq,Int.reduceBNe,fS49,ti25,buildV,evParts,V.isCell,List.all_cons,List.all_nil,Bool.and_self,if_true,placesOf,fillV,List.getElem?_cons_zero,List.getElem?_cons_succ,List.length_cons,List.length_nil,Nat.zero_add,ne_eq,not_true_eq_false,false_or,gt_iff_lt,if_false,wrL,Option.map_some,List.set_cons_zero,List.set_cons_succ,ti2,op_cells,opCells,icell_int,icell_str,icell_bool,dropsW_isC,load_slice,load_int,load_str,load_bool,tag_load2,tag_load,ref_load,tag_eql,tag_neq,ref_eql,str_eql,bool_eql,load15,ge_iff_le,tag_full,tag_fold,ti3,hg7_4,hg7_9]
        refine stepB_F (fun hg7_21 => ?_) (fun hg7_21 => ?_)
        ·simp only [sS,↓sT,Nat.reduceLT,Nat.reduceEqDiff,↓sO,↓WOps_g,sG,opV,loudV,cellsOf,strOp,evL,Nat.reduceAdd,Int.reduceBEq,Int.reduceBNe,fS49,ti25,buildV,evParts,V.isCell,List.all_cons,List.all_nil,Bool.and_self,if_true,placesOf,fillV,List.getElem?_cons_zero,List.getElem?_cons_succ,List.length_cons,List.length_nil,Nat.zero_add,ne_eq,not_true_eq_false,false_or,gt_iff_lt,if_false,wrL,Option.map_some,List.set_cons_zero,List.set_cons_succ,ti2,op_cells,opCells,icell_int,icell_str,icell_bool,dropsW_isC,load_slice,load_int,load_str,load_bool,tag_load2,tag_load,ref_load,tag_eql,tag_neq,ref_eql,str_eql,bool_eql,load15,ge_iff_le,tag_full,tag_fold,ti3,hg7_4,hg7_9,hg7_21]
         refine hN7 _ ?_; try clear hN7 hD7 N7
         refine WC_condE ?_
         simp only [sS,↓sT,Nat.reduceLT,Nat.reduceEqDiff,↓stepC_bool]
         refine ⟨fun hb24 => ?_,fun hb24 => ?_⟩
         ·refine WC_seqR (fun N25 hN25 hD25 => ?_)
          simp only [sS,↓sT,Nat.reduceLT,Nat.reduceEqDiff,↓sO,↓WOps_g,sG,opV,loudV,cellsOf,strOp,evL,Nat.reduceAdd,Int.reduceBEq,Int.reduceBNe,op_cells,opCells,List.all_cons,List.all_nil,icell_int,icell_str,icell_bool,dropsW_isC,Bool.and_self,load_slice,load_int,load_str,load_bool,tag_load2,tag_load,ref_load,tag_eql,tag_neq,ref_eql,str_eql,bool_eql,load15,gt_iff_lt,ge_iff_le,tag_full,tag_fold,ti3]
          refine hN25 _ ?_; try clear hN25 hD25 N25
          refine WC_ret ?_; (try simp only [Exit.after,Exit.out]); refine Kend_ret (by simp only [resOf,resL,resV,mkS_get,slots_get,cellsOf,ti3,sS,↓sT,Nat.reduceLT,Nat.reduceEqDiff]; rfl) (by first | rfl | (simp only [ti3]; done) | (simp only [ti3,okV,ok1,okC,okP,List.all_cons,List.all_nil,Bool.and_true]; done)) ?_
          clear hN6 hD6 N6
          clear hL
          first | (simp_all [rightS,keep_bool,isNil]; done) | (simp_all [rightS,keep_bool,isNil]; omega)
         ·refine WC_skip ?_
          refine hN6 _ ?_; try clear hN6 hD6 N6
          refine WC_seqN (fun N26 hN26 hD26 => ?_)
          refine WC_seqR (fun N27 hN27 hD27 => ?_)
          simp only [sS,↓sT,Nat.reduceLT,Nat.reduceEqDiff,↓sO,↓WOps_g,sG,opV,loudV,cellsOf,strOp,evL,Nat.reduceAdd,Int.reduceBEq,Int.reduceBNe,fS49,ti3,op_cells,opCells,List.all_cons,List.all_nil,icell_int,icell_str,icell_bool,dropsW_isC,Bool.and_self,load_slice,load_int,load_str,load_bool,tag_load2,tag_load,ref_load,tag_eql,tag_neq,ref_eql,str_eql,bool_eql,load15,gt_iff_lt,ge_iff_le,tag_full,tag_fold]
          refine hN27 _ ?_; try clear hN27 hD27 N27
          refine WC_condE ?_
          simp only [sS,↓sT,Nat.reduceLT,Nat.reduceEqDiff,↓stepC_bool]
          refine ⟨fun hb28 => ?_,fun hb28 => ?_⟩
          ·refine WC_seqR (fun N29 hN29 hD29 => ?_)
           simp only [sS,↓sT,Nat.reduceLT,Nat.reduceEqDiff,↓sO,↓WOps_g,sG,opV,loudV,cellsOf,strOp,evL,Nat.reduceAdd,Int.reduceBEq,Int.reduceBNe,op_cells,opCells,List.all_cons,List.all_nil,icell_int,icell_str,icell_bool,dropsW_isC,Bool.and_self,load_slice,load_int,load_str,load_bool,tag_load2,tag_load,ref_load,tag_eql,tag_neq,ref_eql,str_eql,bool_eql,load15,gt_iff_lt,ge_iff_le,tag_full,tag_fold,ti3]
           refine hN29 _ ?_; try clear hN29 hD29 N29
           refine WC_ret ?_; (try simp only [Exit.after,Exit.out]); refine Kend_ret (by simp only [resOf,resL,resV,mkS_get,slots_get,cellsOf,ti3,sS,↓sT,Nat.reduceLT,Nat.reduceEqDiff]; rfl) (by first | rfl | (simp only [ti3]; done) | (simp only [ti3,okV,ok1,okC,okP,List.all_cons,List.all_nil,Bool.and_true]; done)) ?_
           clear hN26 hD26 N26
           clear hL
           first | (simp_all [rightS,keep_bool,isNil]; done) | (simp_all [rightS,keep_bool,isNil]; omega)
          ·refine WC_skip ?_
           refine hN26 _ ?_; try clear hN26 hD26 N26
           refine WC_seqN (fun N30 hN30 hD30 => ?_)
           refine WC_seqR (fun N31 hN31 hD31 => ?_)
           simp only [sS,↓sT,Nat.reduceLT,Nat.reduceEqDiff,↓sO,↓WOps_g,sG,opV,loudV,cellsOf,strOp,evL,Nat.reduceAdd,Int.reduceBEq,Int.reduceBNe,fS49,ti3,op_cells,opCells,List.all_cons,List.all_nil,icell_int,icell_str,icell_bool,dropsW_isC,Bool.and_self,load_slice,load_int,load_str,load_bool,tag_load2,tag_load,ref_load,tag_eql,tag_neq,ref_eql,str_eql,bool_eql,load15,gt_iff_lt,ge_iff_le,tag_full,tag_fold]
           refine stepB_F (fun hg31_3 => ?_) (fun hg31_3 => ?_)
           ·simp only [sS,↓sT,Nat.reduceLT,Nat.reduceEqDiff,↓sO,↓WOps_g,sG,opV,loudV,cellsOf,strOp,evL,Nat.reduceAdd,Int.reduceBEq,Int.reduceBNe,fS49,ti3,op_cells,opCells,List.all_cons,List.all_nil,icell_int,icell_str,icell_bool,dropsW_isC,Bool.and_self,load_slice,load_int,load_str,load_bool,tag_load2,tag_load,ref_load,tag_eql,tag_neq,ref_eql,str_eql,bool_eql,load15,gt_iff_lt,ge_iff_le,tag_full,tag_fold,hg31_3]
            refine hN31 _ ?_; try clear hN31 hD31 N31
            refine WC_condE ?_
            simp only [sS,↓sT,Nat.reduceLT,Nat.reduceEqDiff,↓stepC_bool]
            refine ⟨fun hb32 => ?_,fun hb32 => ?_⟩
            ·refine WC_seqR (fun N33 hN33 hD33 => ?_)
             simp only [sS,↓sT,Nat.reduceLT,Nat.reduceEqDiff,↓sO,↓WOps_g,sG,opV,loudV,cellsOf,strOp,evL,Nat.reduceAdd,Int.reduceBEq,Int.reduceBNe,fS49,ti9,op_cells,opCells,List.all_cons,List.all_nil,icell_int,icell_str,icell_bool,dropsW_isC,Bool.and_self,load_slice,load_int,load_str,load_bool,tag_load2,tag_load,ref_load,tag_eql,tag_neq,ref_eql,str_eql,bool_eql,load15,gt_iff_lt,ge_iff_le,tag_full,tag_fold,ti3]
             refine WOps_callP (c_name _) (by simp only [ev_func]) (by simp only [evL,sS,↓sT,Nat.reduceLT,Nat.reduceEqDiff]; rfl) (by first | rfl | (simp only [List.map,op_bare,tag_bare,ref_bare,bare_str]; done) | (simp only [List.map,op_bare,tag_bare,ref_bare,bare_str]; exact rfl)) (by first | rfl | simp [op_noP,tag_noP,ref_noP,noP_str]) (by first | rfl | simp [op_noP,tag_noP,ref_noP,noP_str]) (by first | exact op_bare _ | rfl) ?_
             simp only [sS,↓sT,Nat.reduceLT,Nat.reduceEqDiff,↓sO,↓WOps_g,sG,opV,loudV,cellsOf,strOp,evL,Nat.reduceAdd,Int.reduceBEq,Int.reduceBNe,fS49,ti9,op_cells,opCells,List.all_cons,List.all_nil,icell_int,icell_str,icell_bool,dropsW_isC,Bool.and_self,load_slice,load_int,load_str,load_bool,tag_load2,tag_load,ref_load,tag_eql,tag_neq,ref_eql,str_eql,bool_eql,load15,gt_iff_lt,ge_iff_le,tag_full,tag_fold,ti3]
             refine hN33 _ ?_; try clear hN33 hD33 N33
             refine WC_ret ?_; (try simp only [Exit.after,Exit.out]); refine Kend_ret (by simp only [resOf,resL,resV,mkS_get,slots_get,cellsOf,ti3,sS,↓sT,Nat.reduceLT,Nat.reduceEqDiff]; rfl) (by first | rfl | (simp only [ti3]; done) | (simp only [ti3,okV,ok1,okC,okP,List.all_cons,List.all_nil,Bool.and_true]; done)) ?_
             clear hN30 hD30 N30
             clear hL
             first | (simp_all [rightS,keep_bool,isNil]; done) | (simp_all [rightS,keep_bool,isNil]; omega)
            ·refine WC_skip ?_
             refine hN30 _ ?_; try clear hN30 hD30 N30
             refine WC_seqR (fun N34 hN34 hD34 => ?_)
             simp only [sS,↓sT,Nat.reduceLT,Nat.reduceEqDiff,↓sO,↓WOps_g,sG,opV,loudV,cellsOf,strOp,evL,Nat.reduceAdd,Int.reduceBEq,Int.reduceBNe,fS49,fS47,ti3,ti9,op_cells,opCells,List.all_cons,List.all_nil,icell_int,icell_str,icell_bool,dropsW_isC,Bool.and_self,load_slice,load_int,load_str,load_bool,tag_load2,tag_load,ref_load,tag_eql,tag_neq,ref_eql,str_eql,bool_eql,load15,gt_iff_lt,ge_iff_le,tag_full,tag_fold]
             refine stepB_F (fun hg34_4 => ?_) (fun hg34_4 => ?_)
             ·simp only [sS,↓sT,Nat.reduceLT,Nat.reduceEqDiff,↓sO,↓WOps_g,sG,opV,loudV,cellsOf,strOp,evL,Nat.reduceAdd,Int.reduceBEq,Int.reduceBNe,fS49,fS47,ti3,ti9,op_cells,opCells,List.all_cons,List.all_nil,icell_int,icell_str,icell_bool,dropsW_isC,Bool.and_self,load_slice,load_int,load_str,load_bool,tag_load2,tag_load,ref_load,tag_eql,tag_neq,ref_eql,str_eql,bool_eql,load15,gt_iff_lt,ge_iff_le,tag_full,tag_fold,hg34_4]
              refine WOps_callP (c_name _) (by simp only [ev_func]) (by simp only [evL,sS,↓sT,Nat.reduceLT,Nat.reduceEqDiff]; rfl) (by first | rfl | (simp only [List.map,op_bare,tag_bare,ref_bare,bare_str]; done) | (simp only [List.map,op_bare,tag_bare,ref_bare,bare_str]; exact rfl)) (by first | rfl | simp [op_noP,tag_noP,ref_noP,noP_str]) (by first | rfl | simp [op_noP,tag_noP,ref_noP,noP_str]) (by first | exact op_bare _ | rfl) ?_
              simp only [sS,↓sT,Nat.reduceLT,Nat.reduceEqDiff,↓sO,↓WOps_g,sG,opV,loudV,cellsOf,strOp,evL,Nat.reduceAdd,Int.reduceBEq,Int.reduceBNe,fS49,fS47,ti3,ti9,op_cells,opCells,List.all_cons,List.all_nil,icell_int,icell_str,icell_bool,dropsW_isC,Bool.and_self,load_slice,load_int,load_str,load_bool,tag_load2,tag_load,ref_load,tag_eql,tag_neq,ref_eql,str_eql,bool_eql,load15,gt_iff_lt,ge_iff_le,tag_full,tag_fold,hg34_4]
              refine hN34 _ ?_; try clear hN34 hD34 N34
              refine WC_seqR (fun N35 hN35 hD35 => ?_)
              simp only [sS,↓sT,Nat.reduceLT,Nat.reduceEqDiff,↓sO,↓WOps_g,sG,opV,loudV,cellsOf,strOp,evL,Nat.reduceAdd,Int.reduceBEq,Int.reduceBNe,fS49,ti47,ti2,ti9,op_cells,opCells,List.all_cons,List.all_nil,icell_int,icell_str,icell_bool,dropsW_isC,Bool.and_self,load_slice,load_int,load_str,load_bool,tag_load2,tag_load,ref_load,tag_eql,tag_neq,ref_eql,str_eql,bool_eql,load15,gt_iff_lt,ge_iff_le,tag_full,tag_fold,ti3]
              refine stepB_T (fun hg35_1 => ?_) (fun hg35_1 => ?_)
              ·simp only [sS,↓sT,Nat.reduceLT,Nat.reduceEqDiff,↓sO,↓WOps_g,sG,opV,loudV,cellsOf,strOp,evL,Nat.reduceAdd,Int.reduceBEq,Int.reduceBNe,fS49,ti47,ti2,ti9,op_cells,opCells,List.all_cons,List.all_nil,icell_int,icell_str,icell_bool,dropsW_isC,Bool.and_self,load_slice,load_int,load_str,load_bool,tag_load2,tag_load,ref_load,tag_eql,tag_neq,ref_eql,str_eql,bool_eql,load15,gt_iff_lt,ge_iff_le,tag_full,tag_fold,ti3,hg35_1]
               refine WOps_callP (c_punnet_field_Place _ _ _) (by simp only [ev_func]) (by simp only [evL,sS,↓sT,Nat.reduceLT,Nat.reduceEqDiff]; rfl) (by first | rfl | (simp only [List.map,op_bare,tag_bare,ref_bare,bare_str]; done) | (simp only [List.map,op_bare,tag_bare,ref_bare,bare_str]; exact rfl)) (by first | rfl | simp [op_noP,tag_noP,ref_noP,noP_str]) (by first | rfl | simp [op_noP,tag_noP,ref_noP,noP_str]) (by first | exact op_bare _ | rfl) ?_
               simp only [sS,↓sT,Nat.reduceLT,Nat.reduceEqDiff,↓sO,↓WOps_g,sG,opV,loudV,cellsOf,strOp,evL,Nat.reduceAdd,Int.reduceBEq,Int.reduceBNe,fS49,ti47,ti2,ti9,op_cells,opCells,List.all_cons,List.all_nil,icell_int,icell_str,icell_bool,dropsW_isC,Bool.and_self,load_slice,load_int,load_str,load_bool,tag_load2,tag_load,ref_load,tag_eql,tag_neq,ref_eql,str_eql,bool_eql,load15,gt_iff_lt,ge_iff_le,tag_full,tag_fold,ti3,hg35_1]
               refine stepB_T (fun hg35_6 => ?_) (fun hg35_6 => ?_)
               ·simp only [sS,↓sT,Nat.reduceLT,Nat.reduceEqDiff,↓sO,↓WOps_g,sG,opV,loudV,cellsOf,strOp,evL,Nat.reduceAdd,Int.reduceBEq,Int.reduceBNe,fS49,ti47,ti2,ti9,op_cells,opCells,List.all_cons,List.all_nil,icell_int,icell_str,icell_bool,dropsW_isC,Bool.and_self,load_slice,load_int,load_str,load_bool,tag_load2,tag_load,ref_load,tag_eql,tag_neq,ref_eql,str_eql,bool_eql,load15,gt_iff_lt,ge_iff_le,tag_full,tag_fold,ti3,hg35_1,hg35_6]
                refine stepB_T (fun hg35_11 => ?_) (fun hg35_11 => ?_)
                ·simp only [sS,↓sT,Nat.reduceLT,Nat.reduceEqDiff,↓sO,↓WOps_g,sG,opV,loudV,cellsOf,strOp,evL,Nat.reduceAdd,Int.reduceBEq,Int.reduceBNe,fS49,ti47,ti2,ti9,op_cells,opCells,List.all_cons,List.all_nil,icell_int,icell_str,icell_bool,dropsW_isC,Bool.and_self,load_slice,load_int,load_str,load_bool,tag_load2,tag_load,ref_load,tag_eql,tag_neq,ref_eql,str_eql,bool_eql,load15,gt_iff_lt,ge_iff_le,tag_full,tag_fold,ti3,hg35_1,hg35_6,hg35_11]
                 refine stepB_T (fun hg35_16 => ?_) (fun hg35_16 => ?_)
                 ·simp only [sS,↓sT,Nat.reduceLT,Nat.reduceEqDiff,↓sO,↓WOps_g,sG,opV,loudV,cellsOf,strOp,evL,Nat.reduceAdd,Int.reduceBEq,Int.reduceBNe,fS49,ti47,ti2,ti9,op_cells,opCells,List.all_cons,List.all_nil,icell_int,icell_str,icell_bool,dropsW_isC,Bool.and_self,load_slice,load_int,load_str,load_bool,tag_load2,tag_load,ref_load,tag_eql,tag_neq,ref_eql,str_eql,bool_eql,load15,gt_iff_lt,ge_iff_le,tag_full,tag_fold,ti3,hg35_1,hg35_6,hg35_11,hg35_16]
                  refine WOps_callP (c_punnet_name_Text _) (by simp only [ev_func]) (by simp only [evL,sS,↓sT,Nat.reduceLT,Nat.reduceEqDiff]; rfl) (by first | rfl | (simp only [List.map,op_bare,tag_bare,ref_bare,bare_str]; done) | (simp only [List.map,op_bare,tag_bare,ref_bare,bare_str]; exact rfl)) (by first | rfl | simp [op_noP,tag_noP,ref_noP,noP_str]) (by first | rfl | simp [op_noP,tag_noP,ref_noP,noP_str]) (by first | exact op_bare _ | rfl) ?_
                  simp only [sS,↓sT,Nat.reduceLT,Nat.reduceEqDiff,↓sO,↓WOps_g,sG,opV,loudV,cellsOf,strOp,evL,Nat.reduceAdd,Int.reduceBEq,Int.reduceBNe,fS49,ti47,ti2,ti9,op_cells,opCells,List.all_cons,List.all_nil,icell_int,icell_str,icell_bool,dropsW_isC,Bool.and_self,load_slice,load_int,load_str,load_bool,tag_load2,tag_load,ref_load,tag_eql,tag_neq,ref_eql,str_eql,bool_eql,load15,gt_iff_lt,ge_iff_le,tag_full,tag_fold,ti3,hg35_1,hg35_6,hg35_11,hg35_16]
                  refine hN35 _ ?_; try clear hN35 hD35 N35
                  refine WC_ret ?_; (try simp only [Exit.after,Exit.out]); refine Kend_ret (by simp only [resOf,resL,resV,mkS_get,slots_get,cellsOf,ti3,sS,↓sT,Nat.reduceLT,Nat.reduceEqDiff]; rfl) (by first | rfl | (simp only [ti3]; done) | (simp only [ti3,okV,ok1,okC,okP,List.all_cons,List.all_nil,Bool.and_true]; done)) ?_
                  clear hL
                  first | (simp_all [rightS,keep_bool,isNil]; done) | (simp_all [rightS,keep_bool,isNil]; omega)
                 ·simp only [sS,↓sT,Nat.reduceLT,Nat.reduceEqDiff,↓sO,↓WOps_g,sG,opV,loudV,cellsOf,strOp,evL,Nat.reduceAdd,Int.reduceBEq,Int.reduceBNe,fS49,ti47,ti2,ti9,op_cells,opCells,List.all_cons,List.all_nil,icell_int,icell_str,icell_bool,dropsW_isC,Bool.and_self,load_slice,load_int,load_str,load_bool,tag_load2,tag_load,ref_load,tag_eql,tag_neq,ref_eql,str_eql,bool_eql,load15,gt_iff_lt,ge_iff_le,tag_full,tag_fold,ti3,hg35_1,hg35_6,hg35_11,hg35_16]
                  refine hN35 _ ?_; try clear hN35 hD35 N35
                  refine WC_ret ?_; (try simp only [Exit.after,Exit.out]); refine Kend_ret (by simp only [resOf,resL,resV,mkS_get,slots_get,cellsOf,ti3,sS,↓sT,Nat.reduceLT,Nat.reduceEqDiff]; rfl) (by first | rfl | (simp only [ti3]; done) | (simp only [ti3,okV,ok1,okC,okP,List.all_cons,List.all_nil,Bool.and_true]; done)) ?_
                  clear hL
                  first | (simp_all [rightS,keep_bool,isNil]; done) | (simp_all [rightS,keep_bool,isNil]; omega)
                ·simp only [sS,↓sT,Nat.reduceLT,Nat.reduceEqDiff,↓sO,↓WOps_g,sG,opV,loudV,cellsOf,strOp,evL,Nat.reduceAdd,Int.reduceBEq,Int.reduceBNe,fS49,ti47,ti2,ti9,op_cells,opCells,List.all_cons,List.all_nil,icell_int,icell_str,icell_bool,dropsW_isC,Bool.and_self,load_slice,load_int,load_str,load_bool,tag_load2,tag_load,ref_load,tag_eql,tag_neq,ref_eql,str_eql,bool_eql,load15,gt_iff_lt,ge_iff_le,tag_full,tag_fold,ti3,hg35_1,hg35_6,hg35_11]
                 refine hN35 _ ?_; try clear hN35 hD35 N35
                 refine WC_ret ?_; (try simp only [Exit.after,Exit.out]); refine Kend_ret (by simp only [resOf,resL,resV,mkS_get,slots_get,cellsOf,ti3,sS,↓sT,Nat.reduceLT,Nat.reduceEqDiff]; rfl) (by first | rfl | (simp only [ti3]; done) | (simp only [ti3,okV,ok1,okC,okP,List.all_cons,List.all_nil,Bool.and_true]; done)) ?_
                 clear hL
                 first | (simp_all [rightS,keep_bool,isNil]; done) | (simp_all [rightS,keep_bool,isNil]; omega)
               ·simp only [sS,↓sT,Nat.reduceLT,Nat.reduceEqDiff,↓sO,↓WOps_g,sG,opV,loudV,cellsOf,strOp,evL,Nat.reduceAdd,Int.reduceBEq,Int.reduceBNe,fS49,ti47,ti2,ti9,op_cells,opCells,List.all_cons,List.all_nil,icell_int,icell_str,icell_bool,dropsW_isC,Bool.and_self,load_slice,load_int,load_str,load_bool,tag_load2,tag_load,ref_load,tag_eql,tag_neq,ref_eql,str_eql,bool_eql,load15,gt_iff_lt,ge_iff_le,tag_full,tag_fold,ti3,hg35_1,hg35_6]
                refine hN35 _ ?_; try clear hN35 hD35 N35
                refine WC_ret ?_; (try simp only [Exit.after,Exit.out]); refine Kend_ret (by simp only [resOf,resL,resV,mkS_get,slots_get,cellsOf,ti3,sS,↓sT,Nat.reduceLT,Nat.reduceEqDiff]; rfl) (by first | rfl | (simp only [ti3]; done) | (simp only [ti3,okV,ok1,okC,okP,List.all_cons,List.all_nil,Bool.and_true]; done)) ?_
                clear hL
                first | (simp_all [rightS,keep_bool,isNil]; done) | (simp_all [rightS,keep_bool,isNil]; omega)
              ·simp only [sS,↓sT,Nat.reduceLT,Nat.reduceEqDiff,↓sO,↓WOps_g,sG,opV,loudV,cellsOf,strOp,evL,Nat.reduceAdd,Int.reduceBEq,Int.reduceBNe,fS49,ti47,ti2,ti9,op_cells,opCells,List.all_cons,List.all_nil,icell_int,icell_str,icell_bool,dropsW_isC,Bool.and_self,load_slice,load_int,load_str,load_bool,tag_load2,tag_load,ref_load,tag_eql,tag_neq,ref_eql,str_eql,bool_eql,load15,gt_iff_lt,ge_iff_le,tag_full,tag_fold,ti3,hg35_1]
               refine hN35 _ ?_; try clear hN35 hD35 N35
               refine WC_ret ?_; (try simp only [Exit.after,Exit.out]); refine Kend_ret (by simp only [resOf,resL,resV,mkS_get,slots_get,cellsOf,ti3,sS,↓sT,Nat.reduceLT,Nat.reduceEqDiff]; rfl) (by first | rfl | (simp only [ti3]; done) | (simp only [ti3,okV,ok1,okC,okP,List.all_cons,List.all_nil,Bool.and_true]; done)) ?_
               clear hL
               first | (simp_all [rightS,keep_bool,isNil]; done) | (simp_all [rightS,keep_bool,isNil]; omega)
             ·simp only [sS,↓sT,Nat.reduceLT,Nat.reduceEqDiff,↓sO,↓WOps_g,sG,opV,loudV,cellsOf,strOp,evL,Nat.reduceAdd,Int.reduceBEq,Int.reduceBNe,fS49,fS47,ti3,ti9,op_cells,opCells,List.all_cons,List.all_nil,icell_int,icell_str,icell_bool,dropsW_isC,Bool.and_self,load_slice,load_int,load_str,load_bool,tag_load2,tag_load,ref_load,tag_eql,tag_neq,ref_eql,str_eql,bool_eql,load15,gt_iff_lt,ge_iff_le,tag_full,tag_fold,hg34_4]
              refine hN34 _ ?_; try clear hN34 hD34 N34
              refine WC_seqR (fun N36 hN36 hD36 => ?_)
              simp only [sS,↓sT,Nat.reduceLT,Nat.reduceEqDiff,↓sO,↓WOps_g,sG,opV,loudV,cellsOf,strOp,evL,Nat.reduceAdd,Int.reduceBEq,Int.reduceBNe,fS49,ti47,ti2,ti9,op_cells,opCells,List.all_cons,List.all_nil,icell_int,icell_str,icell_bool,dropsW_isC,Bool.and_self,load_slice,load_int,load_str,load_bool,tag_load2,tag_load,ref_load,tag_eql,tag_neq,ref_eql,str_eql,bool_eql,load15,gt_iff_lt,ge_iff_le,tag_full,tag_fold,ti3]
              refine WOps_callP (c_punnet_field_Place _ _ _) (by simp only [ev_func]) (by simp only [evL,sS,↓sT,Nat.reduceLT,Nat.reduceEqDiff]; rfl) (by first | rfl | (simp only [List.map,op_bare,tag_bare,ref_bare,bare_str]; done) | (simp only [List.map,op_bare,tag_bare,ref_bare,bare_str]; exact rfl)) (by first | rfl | simp [op_noP,tag_noP,ref_noP,noP_str]) (by first | rfl | simp [op_noP,tag_noP,ref_noP,noP_str]) (by first | exact op_bare _ | rfl) ?_
              simp only [sS,↓sT,Nat.reduceLT,Nat.reduceEqDiff,↓sO,↓WOps_g,sG,opV,loudV,cellsOf,strOp,evL,Nat.reduceAdd,Int.reduceBEq,Int.reduceBNe,fS49,ti47,ti2,ti9,op_cells,opCells,List.all_cons,List.all_nil,icell_int,icell_str,icell_bool,dropsW_isC,Bool.and_self,load_slice,load_int,load_str,load_bool,tag_load2,tag_load,ref_load,tag_eql,tag_neq,ref_eql,str_eql,bool_eql,load15,gt_iff_lt,ge_iff_le,tag_full,tag_fold,ti3]
              refine stepB_T (fun hg36_6 => ?_) (fun hg36_6 => ?_)
              ·simp only [sS,↓sT,Nat.reduceLT,Nat.reduceEqDiff,↓sO,↓WOps_g,sG,opV,loudV,cellsOf,strOp,evL,Nat.reduceAdd,Int.reduceBEq,Int.reduceBNe,fS49,ti47,ti2,ti9,op_cells,opCells,List.all_cons,List.all_nil,icell_int,icell_str,icell_bool,dropsW_isC,Bool.and_self,load_slice,load_int,load_str,load_bool,tag_load2,tag_load,ref_load,tag_eql,tag_neq,ref_eql,str_eql,bool_eql,load15,gt_iff_lt,ge_iff_le,tag_full,tag_fold,ti3,hg36_6]
               refine stepB_T (fun hg36_11 => ?_) (fun hg36_11 => ?_)
               ·simp only [sS,↓sT,Nat.reduceLT,Nat.reduceEqDiff,↓sO,↓WOps_g,sG,opV,loudV,cellsOf,strOp,evL,Nat.reduceAdd,Int.reduceBEq,Int.reduceBNe,fS49,ti47,ti2,ti9,op_cells,opCells,List.all_cons,List.all_nil,icell_int,icell_str,icell_bool,dropsW_isC,Bool.and_self,load_slice,load_int,load_str,load_bool,tag_load2,tag_load,ref_load,tag_eql,tag_neq,ref_eql,str_eql,bool_eql,load15,gt_iff_lt,ge_iff_le,tag_full,tag_fold,ti3,hg36_6,hg36_11]
                refine stepB_T (fun hg36_16 => ?_) (fun hg36_16 => ?_)
                ·simp only [sS,↓sT,Nat.reduceLT,Nat.reduceEqDiff,↓sO,↓WOps_g,sG,opV,loudV,cellsOf,strOp,evL,Nat.reduceAdd,Int.reduceBEq,Int.reduceBNe,fS49,ti47,ti2,ti9,op_cells,opCells,List.all_cons,List.all_nil,icell_int,icell_str,icell_bool,dropsW_isC,Bool.and_self,load_slice,load_int,load_str,load_bool,tag_load2,tag_load,ref_load,tag_eql,tag_neq,ref_eql,str_eql,bool_eql,load15,gt_iff_lt,ge_iff_le,tag_full,tag_fold,ti3,hg36_6,hg36_11,hg36_16]
                 refine WOps_callP (c_punnet_name_Text _) (by simp only [ev_func]) (by simp only [evL,sS,↓sT,Nat.reduceLT,Nat.reduceEqDiff]; rfl) (by first | rfl | (simp only [List.map,op_bare,tag_bare,ref_bare,bare_str]; done) | (simp only [List.map,op_bare,tag_bare,ref_bare,bare_str]; exact rfl)) (by first | rfl | simp [op_noP,tag_noP,ref_noP,noP_str]) (by first | rfl | simp [op_noP,tag_noP,ref_noP,noP_str]) (by first | exact op_bare _ | rfl) ?_
                 simp only [sS,↓sT,Nat.reduceLT,Nat.reduceEqDiff,↓sO,↓WOps_g,sG,opV,loudV,cellsOf,strOp,evL,Nat.reduceAdd,Int.reduceBEq,Int.reduceBNe,fS49,ti47,ti2,ti9,op_cells,opCells,List.all_cons,List.all_nil,icell_int,icell_str,icell_bool,dropsW_isC,Bool.and_self,load_slice,load_int,load_str,load_bool,tag_load2,tag_load,ref_load,tag_eql,tag_neq,ref_eql,str_eql,bool_eql,load15,gt_iff_lt,ge_iff_le,tag_full,tag_fold,ti3,hg36_6,hg36_11,hg36_16]
                 refine hN36 _ ?_; try clear hN36 hD36 N36
                 refine WC_ret ?_; (try simp only [Exit.after,Exit.out]); refine Kend_ret (by simp only [resOf,resL,resV,mkS_get,slots_get,cellsOf,ti3,sS,↓sT,Nat.reduceLT,Nat.reduceEqDiff]; rfl) (by first | rfl | (simp only [ti3]; done) | (simp only [ti3,okV,ok1,okC,okP,List.all_cons,List.all_nil,Bool.and_true]; done)) ?_
                 clear hL
                 first | (simp_all [rightS,keep_bool,isNil]; done) | (simp_all [rightS,keep_bool,isNil]; omega)
                ·simp only [sS,↓sT,Nat.reduceLT,Nat.reduceEqDiff,↓sO,↓WOps_g,sG,opV,loudV,cellsOf,strOp,evL,Nat.reduceAdd,Int.reduceBEq,Int.reduceBNe,fS49,ti47,ti2,ti9,op_cells,opCells,List.all_cons,List.all_nil,icell_int,icell_str,icell_bool,dropsW_isC,Bool.and_self,load_slice,load_int,load_str,load_bool,tag_load2,tag_load,ref_load,tag_eql,tag_neq,ref_eql,str_eql,bool_eql,load15,gt_iff_lt,ge_iff_le,tag_full,tag_fold,ti3,hg36_6,hg36_11,hg36_16]
                 refine hN36 _ ?_; try clear hN36 hD36 N36
                 refine WC_ret ?_; (try simp only [Exit.after,Exit.out]); refine Kend_ret (by simp only [resOf,resL,resV,mkS_get,slots_get,cellsOf,ti3,sS,↓sT,Nat.reduceLT,Nat.reduceEqDiff]; rfl) (by first | rfl | (simp only [ti3]; done) | (simp only [ti3,okV,ok1,okC,okP,List.all_cons,List.all_nil,Bool.and_true]; done)) ?_
                 clear hL
                 first | (simp_all [rightS,keep_bool,isNil]; done) | (simp_all [rightS,keep_bool,isNil]; omega)
               ·simp only [sS,↓sT,Nat.reduceLT,Nat.reduceEqDiff,↓sO,↓WOps_g,sG,opV,loudV,cellsOf,strOp,evL,Nat.reduceAdd,Int.reduceBEq,Int.reduceBNe,fS49,ti47,ti2,ti9,op_cells,opCells,List.all_cons,List.all_nil,icell_int,icell_str,icell_bool,dropsW_isC,Bool.and_self,load_slice,load_int,load_str,load_bool,tag_load2,tag_load,ref_load,tag_eql,tag_neq,ref_eql,str_eql,bool_eql,load15,gt_iff_lt,ge_iff_le,tag_full,tag_fold,ti3,hg36_6,hg36_11]
                refine hN36 _ ?_; try clear hN36 hD36 N36
                refine WC_ret ?_; (try simp only [Exit.after,Exit.out]); refine Kend_ret (by simp only [resOf,resL,resV,mkS_get,slots_get,cellsOf,ti3,sS,↓sT,Nat.reduceLT,Nat.reduceEqDiff]; rfl) (by first | rfl | (simp only [ti3]; done) | (simp only [ti3,okV,ok1,okC,okP,List.all_cons,List.all_nil,Bool.and_true]; done)) ?_
                clear hL
                first | (simp_all [rightS,keep_bool,isNil]; done) | (simp_all [rightS,keep_bool,isNil]; omega)
              ·simp only [sS,↓sT,Nat.reduceLT,Nat.reduceEqDiff,↓sO,↓WOps_g,sG,opV,loudV,cellsOf,strOp,evL,Nat.reduceAdd,Int.reduceBEq,Int.reduceBNe,fS49,ti47,ti2,ti9,op_cells,opCells,List.all_cons,List.all_nil,icell_int,icell_str,icell_bool,dropsW_isC,Bool.and_self,load_slice,load_int,load_str,load_bool,tag_load2,tag_load,ref_load,tag_eql,tag_neq,ref_eql,str_eql,bool_eql,load15,gt_iff_lt,ge_iff_le,tag_full,tag_fold,ti3,hg36_6]
               refine hN36 _ ?_; try clear hN36 hD36 N36
               refine WC_ret ?_; (try simp only [Exit.after,Exit.out]); refine Kend_ret (by simp only [resOf,resL,resV,mkS_get,slots_get,cellsOf,ti3,sS,↓sT,Nat.reduceLT,Nat.reduceEqDiff]; rfl) (by first | rfl | (simp only [ti3]; done) | (simp only [ti3,okV,ok1,okC,okP,List.all_cons,List.all_nil,Bool.and_true]; done)) ?_
               clear hL
               first | (simp_all [rightS,keep_bool,isNil]; done) | (simp_all [rightS,keep_bool,isNil]; omega)
           ·simp only [sS,↓sT,Nat.reduceLT,Nat.reduceEqDiff,↓sO,↓WOps_g,sG,opV,loudV,cellsOf,strOp,evL,Nat.reduceAdd,Int.reduceBEq,Int.reduceBNe,fS49,ti3,op_cells,opCells,List.all_cons,List.all_nil,icell_int,icell_str,icell_bool,dropsW_isC,Bool.and_self,load_slice,load_int,load_str,load_bool,tag_load2,tag_load,ref_load,tag_eql,tag_neq,ref_eql,str_eql,bool_eql,load15,gt_iff_lt,ge_iff_le,tag_full,tag_fold,hg31_3]
            refine hN31 _ ?_; try clear hN31 hD31 N31
            refine WC_condE ?_
            simp only [sS,↓sT,Nat.reduceLT,Nat.reduceEqDiff,↓stepC_bool]
            refine ⟨fun hb => ?_,fun hb => (by cases hb)⟩
            refine WC_seqR (fun N37 hN37 hD37 => ?_)
            simp only [sS,↓sT,Nat.reduceLT,Nat.reduceEqDiff,↓sO,↓WOps_g,sG,opV,loudV,cellsOf,strOp,evL,Nat.reduceAdd,Int.reduceBEq,Int.reduceBNe,fS49,ti9,op_cells,opCells,List.all_cons,List.all_nil,icell_int,icell_str,icell_bool,dropsW_isC,Bool.and_self,load_slice,load_int,load_str,load_bool,tag_load2,tag_load,ref_load,tag_eql,tag_neq,ref_eql,str_eql,bool_eql,load15,gt_iff_lt,ge_iff_le,tag_full,tag_fold,ti3]
            refine WOps_callP (c_name _) (by simp only [ev_func]) (by simp only [evL,sS,↓sT,Nat.reduceLT,Nat.reduceEqDiff]; rfl) (by first | rfl | (simp only [List.map,op_bare,tag_bare,ref_bare,bare_str]; done) | (simp only [List.map,op_bare,tag_bare,ref_bare,bare_str]; exact rfl)) (by first | rfl | simp [op_noP,tag_noP,ref_noP,noP_str]) (by first | rfl | simp [op_noP,tag_noP,ref_noP,noP_str]) (by first | exact op_bare _ | rfl) ?_
            simp only [sS,↓sT,Nat.reduceLT,Nat.reduceEqDiff,↓sO,↓WOps_g,sG,opV,loudV,cellsOf,strOp,evL,Nat.reduceAdd,Int.reduceBEq,Int.reduceBNe,fS49,ti9,op_cells,opCells,List.all_cons,List.all_nil,icell_int,icell_str,icell_bool,dropsW_isC,Bool.and_self,load_slice,load_int,load_str,load_bool,tag_load2,tag_load,ref_load,tag_eql,tag_neq,ref_eql,str_eql,bool_eql,load15,gt_iff_lt,ge_iff_le,tag_full,tag_fold,ti3]
            refine hN37 _ ?_; try clear hN37 hD37 N37
            refine WC_ret ?_; (try simp only [Exit.after,Exit.out]); refine Kend_ret (by simp only [resOf,resL,resV,mkS_get,slots_get,cellsOf,ti3,sS,↓sT,Nat.reduceLT,Nat.reduceEqDiff]; rfl) (by first | rfl | (simp only [ti3]; done) | (simp only [ti3,okV,ok1,okC,okP,List.all_cons,List.all_nil,Bool.and_true]; done)) ?_
            clear hN30 hD30 N30
            clear hL
            first | (simp_all [rightS,keep_bool,isNil]; done) | (simp_all [rightS,keep_bool,isNil]; omega)
        ·simp only [sS,↓sT,Nat.reduceLT,Nat.reduceEqDiff,↓sO,↓WOps_g,sG,opV,loudV,cellsOf,strOp,evL,Nat.reduceAdd,Int.reduceBEq,Int.reduceBNe,fS49,ti25,buildV,evParts,V.isCell,List.all_cons,List.all_nil,Bool.and_self,if_true,placesOf,fillV,List.getElem?_cons_zero,List.getElem?_cons_succ,List.length_cons,List.length_nil,Nat.zero_add,ne_eq,not_true_eq_false,false_or,gt_iff_lt,if_false,wrL,Option.map_some,List.set_cons_zero,List.set_cons_succ,ti2,op_cells,opCells,icell_int,icell_str,icell_bool,dropsW_isC,load_slice,load_int,load_str,load_bool,tag_load2,tag_load,ref_load,tag_eql,tag_neq,ref_eql,str_eql,bool_eql,load15,ge_iff_le,tag_full,tag_fold,ti3,hg7_4,hg7_9,hg7_21]
         refine hN7 _ ?_; try clear hN7 hD7 N7
         refine WC_condE ?_
         simp only [sS,↓sT,Nat.reduceLT,Nat.reduceEqDiff,↓stepC_bool]
         refine ⟨fun hb => ?_,fun hb => (by cases hb)⟩
         refine WC_seqR (fun N38 hN38 hD38 => ?_)
         simp only [sS,↓sT,Nat.reduceLT,Nat.reduceEqDiff,↓sO,↓WOps_g,sG,opV,loudV,cellsOf,strOp,evL,Nat.reduceAdd,Int.reduceBEq,Int.reduceBNe,op_cells,opCells,List.all_cons,List.all_nil,icell_int,icell_str,icell_bool,dropsW_isC,Bool.and_self,load_slice,load_int,load_str,load_bool,tag_load2,tag_load,ref_load,tag_eql,tag_neq,ref_eql,str_eql,bool_eql,load15,gt_iff_lt,ge_iff_le,tag_full,tag_fold,ti3]
         refine hN38 _ ?_; try clear hN38 hD38 N38
         refine WC_ret ?_; (try simp only [Exit.after,Exit.out]); refine Kend_ret (by simp only [resOf,resL,resV,mkS_get,slots_get,cellsOf,ti3,sS,↓sT,Nat.reduceLT,Nat.reduceEqDiff]; rfl) (by first | rfl | (simp only [ti3]; done) | (simp only [ti3,okV,ok1,okC,okP,List.all_cons,List.all_nil,Bool.and_true]; done)) ?_
         clear hN6 hD6 N6
         clear hL
         first | (simp_all [rightS,keep_bool,isNil]; done) | (simp_all [rightS,keep_bool,isNil]; omega)
      ·simp only [sS,↓sT,Nat.reduceLT,Nat.reduceEqDiff,↓sO,↓WOps_g,sG,opV,loudV,cellsOf,strOp,evL,Nat.reduceAdd,Int.reduceBEq,Int.reduceBNe,fS49,ti25,buildV,evParts,V.isCell,List.all_cons,List.all_nil,Bool.and_self,if_true,placesOf,fillV,List.getElem?_cons_zero,List.getElem?_cons_succ,List.length_cons,List.length_nil,Nat.zero_add,ne_eq,not_true_eq_false,false_or,gt_iff_lt,if_false,wrL,Option.map_some,List.set_cons_zero,List.set_cons_succ,ti2,op_cells,opCells,icell_int,icell_str,icell_bool,dropsW_isC,load_slice,load_int,load_str,load_bool,tag_load2,tag_load,ref_load,tag_eql,tag_neq,ref_eql,str_eql,bool_eql,load15,ge_iff_le,tag_full,tag_fold,ti3,hg7_4]
       refine hN7 _ ?_; try clear hN7 hD7 N7
       refine WC_condE ?_
       simp only [sS,↓sT,Nat.reduceLT,Nat.reduceEqDiff,↓stepC_bool]
       refine ⟨fun hb => ?_,fun hb => (by cases hb)⟩
       refine WC_seqR (fun N39 hN39 hD39 => ?_)
       simp only [sS,↓sT,Nat.reduceLT,Nat.reduceEqDiff,↓sO,↓WOps_g,sG,opV,loudV,cellsOf,strOp,evL,Nat.reduceAdd,Int.reduceBEq,Int.reduceBNe,op_cells,opCells,List.all_cons,List.all_nil,icell_int,icell_str,icell_bool,dropsW_isC,Bool.and_self,load_slice,load_int,load_str,load_bool,tag_load2,tag_load,ref_load,tag_eql,tag_neq,ref_eql,str_eql,bool_eql,load15,gt_iff_lt,ge_iff_le,tag_full,tag_fold,ti3]
       refine hN39 _ ?_; try clear hN39 hD39 N39
       refine WC_ret ?_; (try simp only [Exit.after,Exit.out]); refine Kend_ret (by simp only [resOf,resL,resV,mkS_get,slots_get,cellsOf,ti3,sS,↓sT,Nat.reduceLT,Nat.reduceEqDiff]; rfl) (by first | rfl | (simp only [ti3]; done) | (simp only [ti3,okV,ok1,okC,okP,List.all_cons,List.all_nil,Bool.and_true]; done)) ?_
       clear hN6 hD6 N6
       clear hL
       first | (simp_all [rightS,keep_bool,isNil]; done) | (simp_all [rightS,keep_bool,isNil]; omega)
    ·simp only [sS,↓sT,Nat.reduceLT,Nat.reduceEqDiff,↓sD,↓D_g,memOk,lets0,lets1,List.not_mem_nil,not_false_eq_true,true_and,and_true,sG,opV,loudV,cellsOf,strOp,evL,Nat.reduceAdd,Int.reduceBEq,Int.reduceBNe,fS49,ti3,ti49,ti9,op_cells,opCells,List.all_cons,List.all_nil,icell_int,icell_str,icell_bool,dropsW_isC,Bool.and_self,load_slice,load_int,load_str,load_bool,tag_load2,tag_load,ref_load,tag_eql,tag_neq,ref_eql,str_eql,bool_eql,load15,gt_iff_lt,ge_iff_le,tag_full,tag_fold,hg3_3,hg3_8,hg3_15,hg3_20]
     refine hN3 _ ?_; try clear hN3 hD3 N3
     refine WC_condE ?_
     simp only [sS,↓sT,Nat.reduceLT,Nat.reduceEqDiff,↓stepC_bool]
     refine ⟨fun hb => ?_,fun hb => (by cases hb)⟩
     refine WC_seqR (fun N40 hN40 hD40 => ?_)
     simp only [sS,↓sT,Nat.reduceLT,Nat.reduceEqDiff,↓sO,↓WOps_g,sG,opV,loudV,cellsOf,strOp,evL,Nat.reduceAdd,Int.reduceBEq,Int.reduceBNe,op_cells,opCells,List.all_cons,List.all_nil,icell_int,icell_str,icell_bool,dropsW_isC,Bool.and_self,load_slice,load_int,load_str,load_bool,tag_load2,tag_load,ref_load,tag_eql,tag_neq,ref_eql,str_eql,bool_eql,load15,gt_iff_lt,ge_iff_le,tag_full,tag_fold,ti3]
     refine hN40 _ ?_; try clear hN40 hD40 N40
     refine WC_ret ?_; (try simp only [Exit.after,Exit.out]); refine Kend_ret (by simp only [resOf,resL,resV,mkS_get,slots_get,cellsOf,ti3,sS,↓sT,Nat.reduceLT,Nat.reduceEqDiff]; rfl) (by first | rfl | (simp only [ti3]; done) | (simp only [ti3,okV,ok1,okC,okP,List.all_cons,List.all_nil,Bool.and_true]; done)) ?_
     clear hN2 hD2 N2
     clear hL
     first | (simp_all [rightS,keep_bool,isNil]; done) | (simp_all [rightS,keep_bool,isNil]; omega)
   ·simp only [sS,↓sT,Nat.reduceLT,Nat.reduceEqDiff,↓sD,↓D_g,memOk,lets0,lets1,List.not_mem_nil,not_false_eq_true,true_and,and_true,sG,opV,loudV,cellsOf,strOp,evL,Nat.reduceAdd,Int.reduceBEq,Int.reduceBNe,fS49,ti3,ti49,ti9,op_cells,opCells,List.all_cons,List.all_nil,icell_int,icell_str,icell_bool,dropsW_isC,Bool.and_self,load_slice,load_int,load_str,load_bool,tag_load2,tag_load,ref_load,tag_eql,tag_neq,ref_eql,str_eql,bool_eql,load15,gt_iff_lt,ge_iff_le,tag_full,tag_fold,hg3_3,hg3_8,hg3_15]
    refine hN3 _ ?_; try clear hN3 hD3 N3
    refine WC_condE ?_
    simp only [sS,↓sT,Nat.reduceLT,Nat.reduceEqDiff,↓stepC_bool]
    refine ⟨fun hb => ?_,fun hb => (by cases hb)⟩
    refine WC_seqR (fun N41 hN41 hD41 => ?_)
    simp only [sS,↓sT,Nat.reduceLT,Nat.reduceEqDiff,↓sO,↓WOps_g,sG,opV,loudV,cellsOf,strOp,evL,Nat.reduceAdd,Int.reduceBEq,Int.reduceBNe,op_cells,opCells,List.all_cons,List.all_nil,icell_int,icell_str,icell_bool,dropsW_isC,Bool.and_self,load_slice,load_int,load_str,load_bool,tag_load2,tag_load,ref_load,tag_eql,tag_neq,ref_eql,str_eql,bool_eql,load15,gt_iff_lt,ge_iff_le,tag_full,tag_fold,ti3]
    refine hN41 _ ?_; try clear hN41 hD41 N41
    refine WC_ret ?_; (try simp only [Exit.after,Exit.out]); refine Kend_ret (by simp only [resOf,resL,resV,mkS_get,slots_get,cellsOf,ti3,sS,↓sT,Nat.reduceLT,Nat.reduceEqDiff]; rfl) (by first | rfl | (simp only [ti3]; done) | (simp only [ti3,okV,ok1,okC,okP,List.all_cons,List.all_nil,Bool.and_true]; done)) ?_
    clear hN2 hD2 N2
    clear hL
    first | (simp_all [rightS,keep_bool,isNil]; done) | (simp_all [rightS,keep_bool,isNil]; omega)
  ·simp only [sS,↓sT,Nat.reduceLT,Nat.reduceEqDiff,↓sD,↓D_g,memOk,lets0,lets1,List.not_mem_nil,not_false_eq_true,true_and,and_true,sG,opV,loudV,cellsOf,strOp,evL,Nat.reduceAdd,Int.reduceBEq,Int.reduceBNe,fS49,ti3,ti49,ti9,op_cells,opCells,List.all_cons,List.all_nil,icell_int,icell_str,icell_bool,dropsW_isC,Bool.and_self,load_slice,load_int,load_str,load_bool,tag_load2,tag_load,ref_load,tag_eql,tag_neq,ref_eql,str_eql,bool_eql,load15,gt_iff_lt,ge_iff_le,tag_full,tag_fold,hg3_3,hg3_8]
   refine hN3 _ ?_; try clear hN3 hD3 N3
   refine WC_condE ?_
   simp only [sS,↓sT,Nat.reduceLT,Nat.reduceEqDiff,↓stepC_bool]
   refine ⟨fun hb => ?_,fun hb => (by cases hb)⟩
   refine WC_seqR (fun N42 hN42 hD42 => ?_)
   simp only [sS,↓sT,Nat.reduceLT,Nat.reduceEqDiff,↓sO,↓WOps_g,sG,opV,loudV,cellsOf,strOp,evL,Nat.reduceAdd,Int.reduceBEq,Int.reduceBNe,op_cells,opCells,List.all_cons,List.all_nil,icell_int,icell_str,icell_bool,dropsW_isC,Bool.and_self,load_slice,load_int,load_str,load_bool,tag_load2,tag_load,ref_load,tag_eql,tag_neq,ref_eql,str_eql,bool_eql,load15,gt_iff_lt,ge_iff_le,tag_full,tag_fold,ti3]
   refine hN42 _ ?_; try clear hN42 hD42 N42
   refine WC_ret ?_; (try simp only [Exit.after,Exit.out]); refine Kend_ret (by simp only [resOf,resL,resV,mkS_get,slots_get,cellsOf,ti3,sS,↓sT,Nat.reduceLT,Nat.reduceEqDiff]; rfl) (by first | rfl | (simp only [ti3]; done) | (simp only [ti3,okV,ok1,okC,okP,List.all_cons,List.all_nil,Bool.and_true]; done)) ?_
   clear hN2 hD2 N2
   clear hL
   first | (simp_all [rightS,keep_bool,isNil]; done) | (simp_all [rightS,keep_bool,isNil]; omega)
 ·simp only [sS,↓sT,Nat.reduceLT,Nat.reduceEqDiff,↓sD,↓D_g,memOk,lets0,lets1,List.not_mem_nil,not_false_eq_true,true_and,and_true,sG,opV,loudV,cellsOf,strOp,evL,Nat.reduceAdd,Int.reduceBEq,Int.reduceBNe,fS49,ti3,ti49,ti9,op_cells,opCells,List.all_cons,List.all_nil,icell_int,icell_str,icell_bool,dropsW_isC,Bool.and_self,load_slice,load_int,load_str,load_bool,tag_load2,tag_load,ref_load,tag_eql,tag_neq,ref_eql,str_eql,bool_eql,load15,gt_iff_lt,ge_iff_le,tag_full,tag_fold,hg3_3]
  refine hN3 _ ?_; try clear hN3 hD3 N3
  refine WC_condE ?_
  simp only [sS,↓sT,Nat.reduceLT,Nat.reduceEqDiff,↓stepC_bool]
  refine ⟨fun hb => ?_,fun hb => (by cases hb)⟩
  refine WC_seqR (fun N43 hN43 hD43 => ?_)
  simp only [sS,↓sT,Nat.reduceLT,Nat.reduceEqDiff,↓sO,↓WOps_g,sG,opV,loudV,cellsOf,strOp,evL,Nat.reduceAdd,Int.reduceBEq,Int.reduceBNe,op_cells,opCells,List.all_cons,List.all_nil,icell_int,icell_str,icell_bool,dropsW_isC,Bool.and_self,load_slice,load_int,load_str,load_bool,tag_load2,tag_load,ref_load,tag_eql,tag_neq,ref_eql,str_eql,bool_eql,load15,gt_iff_lt,ge_iff_le,tag_full,tag_fold,ti3]
  refine hN43 _ ?_; try clear hN43 hD43 N43
  refine WC_ret ?_; (try simp only [Exit.after,Exit.out]); refine Kend_ret (by simp only [resOf,resL,resV,mkS_get,slots_get,cellsOf,ti3,sS,↓sT,Nat.reduceLT,Nat.reduceEqDiff]; rfl) (by first | rfl | (simp only [ti3]; done) | (simp only [ti3,okV,ok1,okC,okP,List.all_cons,List.all_nil,Bool.and_true]; done)) ?_
  clear hN2 hD2 N2
  clear hL
  first | (simp_all [rightS,keep_bool,isNil]; done) | (simp_all [rightS,keep_bool,isNil]; omega)
end Go.PV
/- awake of layer 26. -/
namespace Go.PV
open Go.Proofs
set_option maxRecDepth 100000
theorem x_awake26 : VC Try.prog 28 [] [] (fun q _ => q = .bool true) :=
  VC_closed (tab := tab) 4000 30 mixed names tabOk rfl rfl rfl rfl (by kernel_rfl)
end Go.PV
/- Pools: words; how many ops of each replica. -/
namespace Go.PV
open Go.Proofs
set_option linter.unusedVariables false
set_option linter.unusedSimpArgs false
set_option maxRecDepth 10000
set_option maxHeartbeats 1000000

/-- a bare slice of ops -/
def PS (l : List OpS) (c : V) : Prop := (l = [] ∧ c = .nils) ∨ ∃ ex, c = .slice 15 (l.map opW) ex none
theorem PS.cleanC {l : List OpS} {c : V} (h : PS l c) : c.cleanC = true ∧ c.bareC = c := by
  rcases h with ⟨_,rfl⟩ | ⟨ex,rfl⟩ <;> exact ⟨rfl,rfl⟩
theorem have_run {c0 c1 c2 c3 c4 c5 : V} {l0 l1 l2 l3 l4 l5 : List OpS} (h0 : PS l0 c0) (h1 : PS l1 c1) (h2 : PS l2 c2) (h3 : PS l3 c3) (h4 : PS l4 c4) (h5 : PS l5 c5) :
    (xCall Try.prog tab 400 4 35 [.rptr [c0,c1,c2,c3,c4,c5]] [] [] 0).map (·.1) = some (vecV [((l0.map opW).length : Int),((l1.map opW).length : Int),((l2.map opW).length : Int),((l3.map opW).length : Int),((l4.map opW).length : Int),((l5.map opW).length : Int)]) := by
  rcases h0 with ⟨rfl,rfl⟩ | ⟨x0,rfl⟩ <;> rcases h1 with ⟨rfl,rfl⟩ | ⟨x1,rfl⟩ <;> rcases h2 with ⟨rfl,rfl⟩ | ⟨x2,rfl⟩ <;> rcases h3 with ⟨rfl,rfl⟩ | ⟨x3,rfl⟩ <;> rcases h4 with ⟨rfl,rfl⟩ | ⟨x4,rfl⟩ <;> rcases h5 with ⟨rfl,rfl⟩ | ⟨x5,rfl⟩ <;> kernel_rfl
end Go.PV
/- Pools: Have, Len; copies of drops. -/
namespace Go.PV
open Go.Proofs
set_option linter.unusedVariables false
set_option linter.unusedSimpArgs false
set_option maxRecDepth 10000
set_option maxHeartbeats 1000000

theorem keep_op (o : OpS) (ow : List (Nat × Nat)) : V.keep ow (opW o) = opW o := by
  have : (dropsW o.drops).keepC ow = dropsW o.drops := by
    obtain ⟨l,v,h⟩ := o.drops
    rcases h with ⟨_,rfl⟩ | ⟨ex,rfl⟩ <;> rfl
  simp only [opW,opCells,V.keep,V.keep1,List.map_cons,List.map_nil,this]; rfl
theorem ok_op (o : OpS) (m : Nat) : okV m (opW o) = true := by
  have : okC m (dropsW o.drops) = true := by
    obtain ⟨l,v,h⟩ := o.drops
    rcases h with ⟨_,rfl⟩ | ⟨ex,rfl⟩ <;> simp [dropsW,okC,okP]
  simp only [opW,opCells,okV,ok1,List.all_cons,List.all_nil,this]; rfl
/-- drops, copied -/
def cloneD (d : Dr) : Dr := match d.v with
  | .nils => Dr.nil
  | _ => if d.l.isEmpty then ⟨[], .slice 2 [] true none, .inr ⟨true,rfl⟩⟩ else ⟨d.l, .slice 2 (d.l.map tagE) false none, .inr ⟨false,rfl⟩⟩
def OpS.own (o : OpS) : OpS := { o with drops := cloneD o.drops }
theorem own_load3 {l : List (Nat × TypeId)} {b : Nat} {z : Option (List V)} (o : OpS) : loadV ⟨.struct l, 15, b, z⟩ [.int .i64 o.own.idR, .int .i64 o.own.idN, .int .i64 o.own.scR, .int .i64 o.own.scN, .int .i64 o.own.time, .str o.own.cart, .int .i64 o.own.kind, .str o.own.item, .int .i64 o.own.atS, .str o.own.atG, .str o.own.atN, .int .i64 o.own.delta, .bool o.own.has, .str o.own.text, dropsW o.own.drops] = some (opW o.own) := rfl
theorem range_zero : ([] = List.range 0) = True := by simp
theorem dropsW_cells (d : Dr) : (dropsW d).cells = [dropsW d] := by
  obtain ⟨l,v,h⟩ := d
  rcases h with ⟨_,rfl⟩ | ⟨ex,rfl⟩ <;> rfl
/-- the cells of a pool -/
def PC (Ls : List (List OpS)) (cs : List V) : Prop := ∃ l0 l1 l2 l3 l4 l5 c0 c1 c2 c3 c4 c5, Ls = [l0, l1, l2, l3, l4, l5] ∧ cs = [c0, c1, c2, c3, c4, c5] ∧ PS l0 c0 ∧ PS l1 c1 ∧ PS l2 c2 ∧ PS l3 c3 ∧ PS l4 c4 ∧ PS l5 c5
def haveL (Ls : List (List OpS)) : List Int := Ls.map fun l => (l.length : Int)
theorem PC.len {Ls : List (List OpS)} {cs : List V} (h : PC Ls cs) : (haveL Ls).length = 6 := by
  obtain ⟨l0,l1,l2,l3,l4,l5,c0,c1,c2,c3,c4,c5,rfl,rfl,_⟩ := h; rfl
theorem c_have {Ls : List (List OpS)} {cs : List V} (h : PC Ls cs) : VC Try.prog 35 [.rptr cs] [] (fun q _ => q = vecV (haveL Ls)) := by
  obtain ⟨l0,l1,l2,l3,l4,l5,c0,c1,c2,c3,c4,c5,rfl,rfl,h0,h1,h2,h3,h4,h5⟩ := h
  have := have_run h0 h1 h2 h3 h4 h5
  simp only [List.length_map] at this
  exact VC_closed (tab := tab) 400 4 mixed names tabOk rfl rfl (vec_noP _) (vec_bare _) this
theorem c__punnet_pool_Pool_Len (Ls : List (List OpS)) (cs : List V) (h : PC Ls cs) : VC Try.prog 31 [.rptr cs] [] (fun r _ => r = .int .i64 (sumS (haveL Ls)).1) := by
 refine VC_enter (nt := 12) (rs := [.tmp 2]) (ow := []) (m := 0) Try.func31 rfl (by rfl) rfl rfl (by simp) (by simp [ownOf,V.toks,V.cells,V.tokC]) rfl (fun n => ?_)
 simp only [zipT,Nat.zero_add]
 refine WC_seqR (fun N1 hN1 hD1 => ?_)
 simp only [sS,↓sT,Nat.reduceLT,Nat.reduceEqDiff,↓sO,↓WOps_g,sG,opV,loudV,cellsOf,strOp,evL,Nat.reduceAdd,Int.reduceBEq,Int.reduceBNe]
 refine hN1 _ ?_; try clear hN1 hD1 N1
 refine WC_seqR (fun N2 hN2 hD2 => ?_)
 simp only [sS,↓sT,Nat.reduceLT,Nat.reduceEqDiff,↓sO,↓WOps_g,sG,opV,loudV,cellsOf,strOp,evL,Nat.reduceAdd,Int.reduceBEq,Int.reduceBNe]
 refine WOps_callP (c_have h) (by simp only [ev_func]) (by simp only [evL,sS,↓sT,Nat.reduceLT,Nat.reduceEqDiff]; rfl) (by first | rfl | (simp only [List.map,vec_bare]; done) | (simp only [List.map,vec_bare]; exact rfl)) (by first | rfl | simp [vec_noP]) (by first | rfl | simp [vec_noP]) (by first | exact vec_bare _ | rfl) ?_
 simp only [sS,↓sT,Nat.reduceLT,Nat.reduceEqDiff,↓sO,↓WOps_g,sG,opV,loudV,cellsOf,strOp,evL,Nat.reduceAdd,Int.reduceBEq,Int.reduceBNe]
 refine WOps_callP (c_punnet_dot_Sum _ h.len) (by simp only [ev_func]) (by simp only [evL,sS,↓sT,Nat.reduceLT,Nat.reduceEqDiff]; rfl) (by first | rfl | (simp only [List.map,vec_bare]; done) | (simp only [List.map,vec_bare]; exact rfl)) (by first | rfl | simp [vec_noP]) (by first | rfl | simp [vec_noP]) (by first | exact vec_bare _ | rfl) ?_
 simp only [sS,↓sT,Nat.reduceLT,Nat.reduceEqDiff,↓sO,↓WOps_g,sG,opV,loudV,cellsOf,strOp,evL,Nat.reduceAdd,Int.reduceBEq,Int.reduceBNe]
 refine hN2 _ ?_; try clear hN2 hD2 N2
 refine WC_seqR (fun N3 hN3 hD3 => ?_)
 simp only [sS,↓sT,Nat.reduceLT,Nat.reduceEqDiff,↓sO,↓WOps_g,sG,opV,loudV,cellsOf,strOp,evL,Nat.reduceAdd,Int.reduceBEq,Int.reduceBNe]
 refine hN3 _ ?_; try clear hN3 hD3 N3
 refine WC_ret ?_; (try simp only [Exit.after,Exit.out]); refine Kend_ret (by simp only [resOf,resL,resV,mkS_get,slots_get,cellsOf,List.getElem?_cons_zero,List.getElem?_cons_succ,List.drop_zero,own_load3,ok_op,ti49,sS,↓sT,Nat.reduceLT,Nat.reduceEqDiff]; rfl) (by first | rfl | (simp only [List.getElem?_cons_zero,List.getElem?_cons_succ,List.drop_zero,own_load3,ok_op,ti49]; done) | (simp only [List.getElem?_cons_zero,List.getElem?_cons_succ,List.drop_zero,own_load3,ok_op,ti49,okV,ok1,okC,okP,List.all_cons,List.all_nil,Bool.and_true]; done)) ?_
 rfl
theorem cloneD_l (d : Dr) : (cloneD d).l = d.l := by
  obtain ⟨l,v,h⟩ := d
  rcases h with ⟨rfl,rfl⟩ | ⟨ex,rfl⟩
  · rfl
  · cases l <;> rfl
theorem clone_nil : VC Try.prog 62 [.nils] [] (fun r _ => r = .nils) :=
  VC_closed (tab := tab) 400 4 mixed names tabOk rfl rfl rfl rfl (by kernel_rfl)
theorem clone_empty (ex : Bool) : VC Try.prog 62 [.slice 2 [] ex none] [] (fun r _ => r = .slice 2 [] true none) :=
  VC_closed (tab := tab) 400 4 mixed names tabOk rfl rfl rfl rfl (by kernel_rfl)
theorem clone_cons (p : Int × Int) (l : List (Int × Int)) (ex : Bool) (hl : l.length + 1 ≤ maxApp) : VC Try.prog 62 [.slice 2 ((p :: l).map tagE) ex none] [] (fun r _ => r = .slice 2 ((p :: l).map tagE) false none) := by
  refine VC_enter (nt := 8) (rs := [.tmp 2]) (ow := []) (m := 0) Try.func62 rfl (by rfl) rfl rfl (by simp) rfl rfl (fun n => ?_)
  simp only [zipT,Nat.zero_add]
  refine WC_seqR (fun N1 hN1 hD1 => ?_)
  simp only [sS,↓sT,Nat.reduceLT,Nat.reduceEqDiff,↓sO,↓WOps_g,sG,opV,loudV,cellsOf,strOp,evL,Nat.reduceAdd,Int.reduceBEq,Int.reduceBNe]
  refine hN1 _ ?_; try clear hN1 hD1 N1
  refine WC_seqN (fun N2 hN2 hD2 => ?_)
  refine WC_seqR (fun N3 hN3 hD3 => ?_)
  simp only [sS,↓sT,Nat.reduceLT,Nat.reduceEqDiff,↓sO,↓WOps_g,sG,opV,loudV,cellsOf,strOp,evL,Nat.reduceAdd,Int.reduceBEq,Int.reduceBNe,binV,eqlV,ti38,Option.map_some]
  refine hN3 _ ?_; try clear hN3 hD3 N3
  refine WC_condE ?_
  simp only [sS,↓sT,Nat.reduceLT,Nat.reduceEqDiff,↓stepC_bool]
  refine ⟨fun hb => (by cases hb),fun hb => ?_⟩
  refine WC_skip ?_
  refine hN2 _ ?_; try clear hN2 hD2 N2
  refine WC_seqR (fun N6 hN6 hD6 => ?_)
  have hap : appendV (⟨.struct [(0,3),(1,3)],2,16,some [.int .i64 0, .int .i64 0]⟩ : TI) [] n (.slice 2 [] true none) (tagE p :: l.map tagE) = some (.slice 2 (tagE p :: l.map tagE) false (some n), [(n,l.length + 1)],n + 1) := by
    simp only [appendV]
    rw [if_pos (by simpa using hl)]
    simp
  simp only [sS,↓sT,Nat.reduceLT,Nat.reduceEqDiff,↓sO,↓WOps_g,sG,opV,loudV,cellsOf,strOp,evL,Nat.reduceAdd,Int.reduceBEq,Int.reduceBNe,buildSliceV,ti38,ti25,elemsV,range_zero,Nat.zero_le,Option.isSome_some,List.all_nil,TD.intK?,hap,Nat.reducePow,Nat.reduceLeDiff]
  refine hN6 _ ?_; try clear hN6 hD6 N6
  refine WC_noOwn ?_
  refine WC_ret ?_; (try simp only [Exit.after,Exit.out]); refine Kend_ret (by simp only [resOf,resL,resV,mkS_get,slots_get,cellsOf,List.getElem?_cons_zero,List.getElem?_cons_succ,List.drop_zero,own_load3,ok_op,ti49,sS,↓sT,Nat.reduceLT,Nat.reduceEqDiff]; rfl) (by first | rfl | (simp only [List.getElem?_cons_zero,List.getElem?_cons_succ,List.drop_zero,own_load3,ok_op,ti49]; done) | (simp only [List.getElem?_cons_zero,List.getElem?_cons_succ,List.drop_zero,own_load3,ok_op,ti49,okV,ok1,okC,okP,List.all_cons,List.all_nil,Bool.and_true]; done)) ?_
  rfl
theorem c_clone (d : Dr) (hd : d.l.length ≤ maxApp) : VC Try.prog 62 [dropsW d] [] (fun r _ => r = dropsW (cloneD d)) := by
  obtain ⟨l,v,h⟩ := d
  simp only [dropsW] at hd ⊢
  have hv : v = .nils ∨ ∃ ex,v = .slice 2 (l.map tagE) ex none := by
    rcases h with ⟨_,h⟩ | ⟨ex,h⟩
    · exact .inl h
    · exact .inr ⟨ex,h⟩
  rcases hv with rfl | ⟨ex,rfl⟩
  · exact clone_nil
  · cases l with
    | nil => exact clone_empty ex
    | cons p l => exact clone_cons p l ex (by simpa using hd)
theorem own_load {l : List (Nat × TypeId)} {b : Nat} {z : Option (List V)} (o : OpS) : loadV ⟨.struct l, 15, b, z⟩ (wrL [.int .i64 o.idR, .int .i64 o.idN, .int .i64 o.scR, .int .i64 o.scN, .int .i64 o.time, .str o.cart, .int .i64 o.kind, .str o.item, .int .i64 o.atS, .str o.atG, .str o.atN, .int .i64 o.delta, .bool o.has, .str o.text, dropsW o.drops] 14 [dropsW (cloneD o.drops)]) = some (opW o.own) := rfl
theorem wr15 (a0 a1 a2 a3 a4 a5 a6 a7 a8 a9 b0 b1 b2 b3 b4 c0 c1 c2 c3 c4 c5 c6 c7 c8 c9 d0 d1 d2 d3 d4 : V) : wrL [a0, a1, a2, a3, a4, a5, a6, a7, a8, a9, b0, b1, b2, b3, b4] 0 [c0, c1, c2, c3, c4, c5, c6, c7, c8, c9, d0, d1, d2, d3, d4] = [c0, c1, c2, c3, c4, c5, c6, c7, c8, c9, d0, d1, d2, d3, d4] := rfl
theorem c_punnet_op_Own (o : OpS) (hd : o.drops.l.length ≤ maxApp) : VC Try.prog 53 [opW o] [] (fun r _ => r = opW o.own) := by
 refine VC_enter (nt := 8) (rs := [.cell 2 49]) (ow := []) (m := 0) Try.func53 rfl (by rfl) rfl rfl (by simp) (by simp [ownOf,op_toks]) rfl (fun n => ?_)
 simp only [zipT,Nat.zero_add]
 refine WC_seqR (fun N1 hN1 hD1 => ?_)
 simp only [sS,↓sT,Nat.reduceLT,Nat.reduceEqDiff,↓sO,↓WOps_g,sG,opV,loudV,cellsOf,strOp,evL,Nat.reduceAdd,Int.reduceBEq,Int.reduceBNe,ti49,op_cells,opCells,List.all_cons,List.all_nil,icell_int,icell_str,icell_bool,dropsW_isC,Bool.and_self,load_slice,dropsW_cells,own_load,wr15,load15]
 refine hN1 _ ?_; try clear hN1 hD1 N1
 refine WC_seqR (fun N2 hN2 hD2 => ?_)
 simp only [sS,↓sT,Nat.reduceLT,Nat.reduceEqDiff,↓sO,↓WOps_g,sG,opV,loudV,cellsOf,strOp,evL,Nat.reduceAdd,Int.reduceBEq,Int.reduceBNe,fS49,ti38,op_cells,opCells,List.all_cons,List.all_nil,icell_int,icell_str,icell_bool,dropsW_isC,Bool.and_self,load_slice,dropsW_cells,own_load,wr15,load15]
 refine WOps_callP (c_clone o.drops hd) (by simp only [ev_func]) (by simp only [evL,sS,↓sT,Nat.reduceLT,Nat.reduceEqDiff]; rfl) (by first | rfl | (simp only [List.map,(dropsW_TS o.drops).bare]; done) | (simp only [List.map,(dropsW_TS o.drops).bare]; exact rfl)) (by first | rfl | simp [(dropsW_TS o.drops).noP,(dropsW_TS (cloneD o.drops)).noP]) (by first | rfl | simp [(dropsW_TS o.drops).noP,(dropsW_TS (cloneD o.drops)).noP]) (by first | exact (dropsW_TS (cloneD o.drops)).bare | rfl) ?_
 simp only [sS,↓sT,Nat.reduceLT,Nat.reduceEqDiff,↓sO,↓WOps_g,sG,opV,loudV,cellsOf,strOp,evL,Nat.reduceAdd,Int.reduceBEq,Int.reduceBNe,fS49,ti38,op_cells,opCells,List.all_cons,List.all_nil,icell_int,icell_str,icell_bool,dropsW_isC,Bool.and_self,load_slice,dropsW_cells,own_load,wr15,load15]
 refine hN2 _ ?_; try clear hN2 hD2 N2
 refine WC_seqR (fun N3 hN3 hD3 => ?_)
 simp only [sS,↓sT,Nat.reduceLT,Nat.reduceEqDiff,↓sO,↓WOps_g,sG,opV,loudV,cellsOf,strOp,evL,Nat.reduceAdd,Int.reduceBEq,Int.reduceBNe,ti49,op_cells,opCells,List.all_cons,List.all_nil,icell_int,icell_str,icell_bool,dropsW_isC,Bool.and_self,load_slice,dropsW_cells,own_load,wr15,load15]
 refine hN3 _ ?_; try clear hN3 hD3 N3
 refine WC_ret ?_; (try simp only [Exit.after,Exit.out]); refine Kend_ret (by simp only [resOf,resL,resV,mkS_get,slots_get,cellsOf,List.getElem?_cons_zero,List.getElem?_cons_succ,List.drop_zero,own_load3,ok_op,ti49,sS,↓sT,Nat.reduceLT,Nat.reduceEqDiff]; rfl) (by first | rfl | (simp only [List.getElem?_cons_zero,List.getElem?_cons_succ,List.drop_zero,own_load3,ok_op,ti49]; done) | (simp only [List.getElem?_cons_zero,List.getElem?_cons_succ,List.drop_zero,own_load3,ok_op,ti49,okV,ok1,okC,okP,List.all_cons,List.all_nil,Bool.and_true]; done)) ?_
 exact keep_op _ _
end Go.PV
/- Pools: Find. -/
namespace Go.PV
open Go.Proofs
set_option linter.unusedVariables false
set_option linter.unusedSimpArgs false
set_option maxRecDepth 10000
set_option maxHeartbeats 1000000

def opZ : OpS := ⟨0, 0, 0, 0, 0, [], 0, [], 0, [], [], 0, false, [], Dr.nil⟩
theorem opZ_w : V.agg [.int .i64 0, .int .i64 0, .int .i64 0, .int .i64 0, .int .i64 0, .str [], .int .i64 0, .str [], .int .i64 0, .str [], .str [], .int .i64 0, .bool false, .str [], .nils] = opW opZ := rfl
theorem zero_load {l : List (Nat × TypeId)} {b : Nat} {z : Option (List V)} : loadV ⟨.struct l, 15, b, z⟩ [.int .i64 0, .int .i64 0, .int .i64 0, .int .i64 0, .int .i64 0, .str [], .int .i64 0, .str [], .int .i64 0, .str [], .str [], .int .i64 0, .bool false, .str [], .nils] = some (opW opZ) := rfl
theorem ok_tup (o : OpS) (c : Int) (m : Nat) : okV m (.tup [opW o, .int .i64 c]) = true := by
  have := ok_op o m
  simp only [okV] at this ⊢
  simp only [List.all_cons,List.all_nil,Bool.and_true]
  have h2 : ok1 m (opW o) = true := this
  rw [h2]; rfl
theorem keep_tup (o : OpS) (c : Int) (ow : List (Nat × Nat)) : V.keep ow (.tup [opW o, .int .i64 c]) = .tup [opW o, .int .i64 c] := by
  have : V.keep1 ow (opW o) = opW o := keep_op o ow
  simp only [V.keep,List.map_cons,List.map_nil,this]; rfl
theorem PS.ia {l : List OpS} {c : V} (h : PS l c) {i : Nat} {o : OpS} (ho : l[i]? = some o) : indexAddrV Try.prog 52 c (.int .i64 i) = some (.rptr (opCells o)) := by
  rcases h with ⟨rfl,rfl⟩ | ⟨ex,rfl⟩
  · simp at ho
  · simp [indexAddrV,ti52,ti49,ho,op_cells]
theorem PC.get {Ls : List (List OpS)} {cs : List V} (h : PC Ls cs) {i : Nat} (hi : i < 6) : ∃ l c, Ls[i]? = some l ∧ cs[i]? = some c ∧ PS l c := by
  obtain ⟨l0,l1,l2,l3,l4,l5,c0,c1,c2,c3,c4,c5,rfl,rfl,h0,h1,h2,h3,h4,h5⟩ := h
  match i,hi with
  | 0,_ => exact ⟨_,_,rfl,rfl,h0⟩
  | 1,_ => exact ⟨_,_,rfl,rfl,h1⟩
  | 2,_ => exact ⟨_,_,rfl,rfl,h2⟩
  | 3,_ => exact ⟨_,_,rfl,rfl,h3⟩
  | 4,_ => exact ⟨_,_,rfl,rfl,h4⟩
  | 5,_ => exact ⟨_,_,rfl,rfl,h5⟩
  | i + 6,h => omega
def atS (Ls : List (List OpS)) (r t : Int) : OpS := (Ls.getD (r - 1).toNat []).getD (t - 1).toNat opZ
def findS (Ls : List (List OpS)) (r t : Int) : OpS × Int := if hasB (haveL Ls) r t = true then ((atS Ls r t).own, 0) else (opZ, 6)
theorem has_at {Ls : List (List OpS)} {cs : List V} (h : PC Ls cs) {r t : Int} (hh : hasB (haveL Ls) r t = true) :
    1 ≤ r ∧ r ≤ 6 ∧ 1 ≤ t ∧ ∃ l c,Ls[(r - 1).toNat]? = some l ∧ cs[(r - 1).toNat]? = some c ∧ PS l c ∧ l[(t - 1).toNat]? = some (atS Ls r t) := by
  simp only [hasB,Bool.and_eq_true,decide_eq_true_eq] at hh
  obtain ⟨ht,hle⟩ := hh
  obtain ⟨r1,r6,t1,_⟩ := tagB_iff.1 ht
  have hi6 : (r - 1).toNat < 6 := by omega
  unfold atS
  generalize (r - 1).toNat = i at hle hi6 ⊢
  have hj : ((t - 1).toNat : Int) < (haveL Ls).getD i 0 := by omega
  generalize (t - 1).toNat = j at hj ⊢
  obtain ⟨l,c,h1,h2,h3⟩ := h.get hi6
  have hl : (haveL Ls).getD i 0 = (l.length : Int) := by simp [haveL,List.getD,h1]
  rw [hl] at hj
  refine ⟨r1,r6,t1,l,c,h1,h2,h3, ?_⟩
  have : j < l.length := by omega
  simp [List.getD,h1,List.getElem?_eq_getElem this]
end Go.PV
/- Pools as they are held: with tokens. Find. -/
namespace Go.PV
open Go.Proofs
set_option linter.unusedVariables false
set_option linter.unusedSimpArgs false
set_option maxRecDepth 10000
set_option maxHeartbeats 1000000

/-- a slice of ops as a pool has it -/
def PT (l : List OpS) (c : V) : Prop := (l = [] ∧ c = .nils) ∨ ∃ tok, c = .slice 15 (l.map opW) false tok
theorem PT.bare {l : List OpS} {c : V} (h : PT l c) : PS l c.bareC := by
  rcases h with ⟨rfl,rfl⟩ | ⟨id,rfl⟩
  · exact .inl ⟨rfl,rfl⟩
  · exact .inr ⟨false,rfl⟩
theorem PT.facts {l : List OpS} {c : V} (h : PT l c) : c.noP0 = true ∧ c.isCell = true ∧ c.bareC.cleanC = true := by
  rcases h with ⟨rfl,rfl⟩ | ⟨id,rfl⟩ <;> exact ⟨rfl,rfl,rfl⟩
theorem PT.keep {l : List OpS} {c : V} (h : PT l c) {own : List (Nat × Nat)} (ho : ∀ q ∈ c.tokC, q ∈ own) : c.keepC own = c := by
  rcases h with ⟨rfl,rfl⟩ | ⟨id,rfl⟩
  · rfl
  · cases id with
    | none => rfl
    | some id =>
      have := ho (id,(l.map opW).length) (by simp [V.tokC])
      simp only [V.keepC]
      rw [if_pos (by simpa using this)]
theorem PT.ia {l : List OpS} {c : V} (h : PT l c) {i : Nat} {o : OpS} (ho : l[i]? = some o) : indexAddrV Try.prog 52 c (.int .i64 i) = some (.rptr (opCells o)) := by
  rcases h with ⟨rfl,rfl⟩ | ⟨id,rfl⟩
  · simp at ho
  · simp [indexAddrV,ti52,ti49,ho,op_cells]
def PCt (Ls : List (List OpS)) (cs : List V) : Prop := ∃ l0 l1 l2 l3 l4 l5 c0 c1 c2 c3 c4 c5, Ls = [l0, l1, l2, l3, l4, l5] ∧ cs = [c0, c1, c2, c3, c4, c5] ∧ PT l0 c0 ∧ PT l1 c1 ∧ PT l2 c2 ∧ PT l3 c3 ∧ PT l4 c4 ∧ PT l5 c5
theorem PCt.bare {Ls : List (List OpS)} {cs : List V} (h : PCt Ls cs) : PC Ls (cs.map V.bareC) := by
  obtain ⟨l0,l1,l2,l3,l4,l5,c0,c1,c2,c3,c4,c5,rfl,rfl,h0,h1,h2,h3,h4,h5⟩ := h
  exact ⟨_,_,_,_,_,_,_,_,_,_,_,_,rfl,rfl,h0.bare,h1.bare,h2.bare,h3.bare,h4.bare,h5.bare⟩
theorem PCt.mem {Ls : List (List OpS)} {cs : List V} (h : PCt Ls cs) {c : V} (hc : c ∈ cs) : ∃ l ∈ Ls, PT l c := by
  obtain ⟨l0,l1,l2,l3,l4,l5,c0,c1,c2,c3,c4,c5,rfl,rfl,h0,h1,h2,h3,h4,h5⟩ := h
  simp only [List.mem_cons,List.not_mem_nil,or_false] at hc
  rcases hc with rfl | rfl | rfl | rfl | rfl | rfl
  · exact ⟨_,by simp,h0⟩
  · exact ⟨_,by simp,h1⟩
  · exact ⟨_,by simp,h2⟩
  · exact ⟨_,by simp,h3⟩
  · exact ⟨_,by simp,h4⟩
  · exact ⟨_,by simp,h5⟩
theorem PCt.noP {Ls : List (List OpS)} {cs : List V} (h : PCt Ls cs) : ∀ c ∈ cs, c.noP0 = true := fun c hc => by
  obtain ⟨l,_,hl⟩ := h.mem hc; exact hl.facts.1
theorem PCt.keep {Ls : List (List OpS)} {cs : List V} (h : PCt Ls cs) {own : List (Nat × Nat)} (ho : ∀ q ∈ cs.flatMap V.tokC, q ∈ own) : cs.map (V.keepC own) = cs := by
  conv => rhs; rw [← List.map_id cs]
  refine List.map_congr_left fun c hc => ?_
  obtain ⟨l,_,hl⟩ := h.mem hc
  exact hl.keep fun q hq => ho q (List.mem_flatMap.2 ⟨c,hc,hq⟩)
theorem PCt.get {Ls : List (List OpS)} {cs : List V} (h : PCt Ls cs) {i : Nat} (hi : i < 6) : ∃ l c, Ls[i]? = some l ∧ cs[i]? = some c ∧ PT l c := by
  obtain ⟨l0,l1,l2,l3,l4,l5,c0,c1,c2,c3,c4,c5,rfl,rfl,h0,h1,h2,h3,h4,h5⟩ := h
  match i,hi with
  | 0,_ => exact ⟨_,_,rfl,rfl,h0⟩
  | 1,_ => exact ⟨_,_,rfl,rfl,h1⟩
  | 2,_ => exact ⟨_,_,rfl,rfl,h2⟩
  | 3,_ => exact ⟨_,_,rfl,rfl,h3⟩
  | 4,_ => exact ⟨_,_,rfl,rfl,h4⟩
  | 5,_ => exact ⟨_,_,rfl,rfl,h5⟩
  | i + 6,h => omega
theorem PCt.lent {Ls : List (List OpS)} {cs : List V} (h : PCt Ls cs) {heap : List (List V)} (hh : heap[0]? = some cs) : lentL heap [.ptr 0 0] [.rptr (cs.map V.bareC)] :=
  ⟨.inr ⟨0,0,cs,rfl,hh,rfl,fun c hc => by obtain ⟨l,_,hl⟩ := h.mem hc; exact hl.facts.2.2⟩,trivial⟩
theorem has_att {Ls : List (List OpS)} {cs : List V} (h : PCt Ls cs) {r t : Int} (hh : hasB (haveL Ls) r t = true) :
    1 ≤ r ∧ r ≤ 6 ∧ 1 ≤ t ∧ ∃ l c,Ls[(r - 1).toNat]? = some l ∧ cs[(r - 1).toNat]? = some c ∧ PT l c ∧ l[(t - 1).toNat]? = some (atS Ls r t) := by
  obtain ⟨r1,r6,t1,l,c,h1,h2,h3,h4⟩ := has_at h.bare hh
  obtain ⟨l',c',k1,k2,k3⟩ := h.get (i := (r - 1).toNat) (by omega)
  rw [h1] at k1
  obtain rfl := Option.some.inj k1
  exact ⟨r1,r6,t1,l,c',h1,k2,k3,h4⟩
theorem Kend_ret1 {rs : List ResultVar} {R : V → List (List V) → Prop} {x : V} {s : St} {cs : List V} {rest : List (List V)} (hx : resOf Try.prog s rs = some x) (hh : s.heap = cs :: rest) (hok : okV 1 x = true) (hc : ∀ c ∈ cs, c.noP0 = true)
    (hR : R (x.keep s.own) [cs.map (V.keepC s.own)]) : Kend Try.prog rs 1 R .ret s :=
  ⟨.inr rfl,x,1,hx,Nat.le_refl _,by rw [hh]; simp, .inr (by
    rw [hh]; simp only [hok,Bool.true_and,List.take_succ_cons,List.take_zero,List.all_cons,List.all_nil,Bool.and_true,List.all_eq_true]
    exact fun c hcc => (renC_noP (ρ := []) (hc c hcc)).2 1),by rw [hh]; simpa using hR⟩
theorem vec_pl (v : List Int) : (vecV v).pl = true := by simp [vecV, V.pl, V.pl1, V.pl0]
theorem h__punnet_pool_Pool_Find (Ls : List (List OpS)) (cs : List V) (h : PCt Ls cs) (rp t : Int) (hd : ∀ l ∈ Ls, ∀ o ∈ l, o.drops.l.length ≤ maxApp) : VC Try.prog 39 [.ptr 0 0, tagV rp t] [cs] (fun r hh => hh = [cs] ∧ r = .tup [opW (findS Ls rp t).1, .int .i64 (findS Ls rp t).2]) := by
 refine VC_enter (nt := 29) (rs := [.cell 4 49, .tmp 5]) (ow := cs.flatMap V.tokC) (m := 1) Try.func39 rfl (by rfl) rfl rfl (by simp) (by simp [ownOf,V.toks,V.cells,V.tokC,tagV]) rfl (fun n => ?_)
 simp only [zipT,Nat.zero_add]
 have hlen6 : cs.length = 6 := by obtain ⟨_,_,_,_,_,_,_,_,_,_,_,_,_,rfl,_⟩ := h; rfl
 obtain ⟨o,hod⟩ : ∃ o,atS Ls rp t = o := ⟨_,rfl⟩
 have key := @has_att Ls cs h rp t
 rw [hod] at key
 obtain ⟨c,hc⟩ : ∃ c,(hasB (haveL Ls) rp t = true → cs[(rp - 1).toNat]? = some c ∧ ∃ l,Ls[(rp - 1).toNat]? = some l ∧ PT l c ∧ l[(t - 1).toNat]? = some o) := by
   by_cases hh : hasB (haveL Ls) rp t = true
   · obtain ⟨_,_,_,l,c,k1,k2,k3,k4⟩ := key hh
     exact ⟨c,fun _ => ⟨k2,l,k1,k3,k4⟩⟩
   · exact ⟨.nils,fun h => absurd h hh⟩
 have hI0 : (!hasB (haveL Ls) rp t) = false → IntKind.i64.wrap (rp - 1) = rp - 1 ∧ IntKind.i64.wrap (t - 1) = t - 1 := fun hh => by
   have hh : hasB (haveL Ls) rp t = true := by simpa using hh
   obtain ⟨r1,r6,t1,_⟩ := key hh
   simp only [hasB,Bool.and_eq_true,decide_eq_true_eq] at hh
   have := (tagB_iff.1 hh.1)
   exact ⟨wrapI (by omega) (by omega),wrapI (by omega) (by omega)⟩
 have hIa := fun hh => (hI0 hh).1
 have hIb := fun hh => (hI0 hh).2
 have hI1 : (!hasB (haveL Ls) rp t) = false → indexAddrV Try.prog 80 (.ptr 0 0) (.int .i64 (rp - 1)) = some (.ptr 0 (rp - 1).toNat) := fun hh => by
   have hh : hasB (haveL Ls) rp t = true := by simpa using hh
   obtain ⟨r1,r6,t1,_⟩ := key hh
   simp only [indexAddrV,ti80,ti52]
   rw [if_pos (by omega),Nat.mul_one,Nat.zero_add]
 have hI2 : (!hasB (haveL Ls) rp t) = false → loadV (⟨.slice 49,1,24,some [.nils]⟩ : TI) (cs.drop (rp - 1).toNat) = some c := fun hh => by
   have hh : hasB (haveL Ls) rp t = true := by simpa using hh
   have := (hc hh).1
   show (cs.drop (rp - 1).toNat).head? = some c
   rw [List.head?_drop,this]
 have hI3 : (!hasB (haveL Ls) rp t) = false → indexAddrV Try.prog 52 c (.int .i64 (t - 1)) = some (.rptr (opCells o)) := fun hh => by
   have hh : hasB (haveL Ls) rp t = true := by simpa using hh
   obtain ⟨r1,r6,t1,_⟩ := key hh
   obtain ⟨_,l,_,k3,k4⟩ := hc hh
   have := k3.ia k4
   rwa [show ((t - 1).toNat : Int) = t - 1 from by omega] at this
 refine WC_seqR (fun N1 hN1 hD1 => ?_)
 simp only [sS,↓sT,Nat.reduceLT,Nat.reduceEqDiff,↓sO,↓WOps_g,sG,opV,loudV,cellsOf,strOp,evL,Nat.reduceAdd,Int.reduceBEq,Int.reduceBNe,ti49,tag_cells,tag_isC,tag_full,tag_load,load_int,hIa,hIb,hI1,hI2,hI3,op_load,List.drop_zero,int_load,opZ_w,op_cells,op_isC,op_len,op_full,wr15,Nat.le_refl,ti25,ti2,ti9,ti3,ti47,ti4,ti38]
 refine hN1 _ ?_; try clear hN1 hD1 N1
 refine WC_seqN (fun N2 hN2 hD2 => ?_)
 refine WC_seqR (fun N3 hN3 hD3 => ?_)
 simp only [sS,↓sT,Nat.reduceLT,Nat.reduceEqDiff,↓sO,↓WOps_g,sG,opV,loudV,cellsOf,strOp,evL,Nat.reduceAdd,Int.reduceBEq,Int.reduceBNe,tag_cells,tag_isC,tag_full,tag_load,load_int,hIa,hIb,hI1,hI2,hI3,op_load,List.drop_zero,int_load,opZ_w,op_cells,op_isC,op_len,op_full,wr15,Nat.le_refl,ti25,ti2,ti9,ti3,ti47,ti4,ti38,ti49]
 refine hN3 _ ?_; try clear hN3 hD3 N3
 refine WC_condE ?_
 simp only [sS,↓sT,Nat.reduceLT,Nat.reduceEqDiff,↓stepC_bool]
 refine ⟨fun hb4 => ?_,fun hb4 => ?_⟩
 ·refine WC_seqR (fun N5 hN5 hD5 => ?_)
  simp only [sS,↓sT,Nat.reduceLT,Nat.reduceEqDiff,↓sO,↓WOps_g,sG,opV,loudV,cellsOf,strOp,evL,Nat.reduceAdd,Int.reduceBEq,Int.reduceBNe,buildV,evParts,V.isCell,List.all_cons,List.all_nil,Bool.and_self,if_true,placesOf,fillV,List.getElem?_cons_zero,List.getElem?_cons_succ,List.length_cons,List.length_nil,Nat.zero_add,ne_eq,not_true_eq_false,false_or,gt_iff_lt,if_false,wrL,Option.map_some,List.set_cons_zero,List.set_cons_succ,ti49,tag_cells,tag_isC,tag_full,tag_load,load_int,hIa,hIb,hI1,hI2,hI3,op_load,List.drop_zero,int_load,opZ_w,op_cells,op_isC,op_len,op_full,wr15,Nat.le_refl,ti25,ti2,ti9,ti3,ti47,ti4,ti38,hb4]
  refine hN5 _ ?_; try clear hN5 hD5 N5
  refine WC_ret ?_; (try simp only [Exit.after,Exit.out]); refine Kend_ret1 (by simp only [resOf,resL,resV,mkS_get,slots_get,cellsOf,op_load,List.getElem?_cons_zero,List.getElem?_cons_succ,List.drop_zero,own_load3,zero_load,ok_op,ok_tup,ti49,sS,↓sT,Nat.reduceLT,Nat.reduceEqDiff]; rfl) rfl (by first | rfl | (simp only [op_load,List.getElem?_cons_zero,List.getElem?_cons_succ,List.drop_zero,own_load3,zero_load,ok_op,ok_tup,ti49]; done)) h.noP ?_
  clear hN2 hD2 N2
  first
  | (cases hb4; done)
  | (refine ⟨by rw [h.keep (fun q hq => hq)], ?_⟩; rw [keep_tup,findS,if_pos (by simpa using hb8),hod]; done)
  | (refine ⟨by rw [h.keep (fun q hq => hq)], ?_⟩; rw [keep_tup,findS,if_neg (by simpa using hb8)]; done)
 ·refine WC_skip ?_
  refine hN2 _ ?_; try clear hN2 hD2 N2
  refine WC_seqN (fun N6 hN6 hD6 => ?_)
  refine WC_seqD mixed [] [0,1,0,0,0] (by decide +kernel) (fun N7 hN7 hD7 => ?_)
  simp only [sS,↓sT,Nat.reduceLT,Nat.reduceEqDiff,↓sD,↓D_g,memOk,lets0,lets1,List.not_mem_nil,not_false_eq_true,true_and,and_true,sG,opV,loudV,cellsOf,strOp,evL,Nat.reduceAdd,Int.reduceBEq,Int.reduceBNe,ti25,tag_cells,tag_isC,tag_full,tag_load,load_int,hIa,hIb,hI1,hI2,hI3,op_load,List.drop_zero,int_load,opZ_w,op_cells,op_isC,op_len,op_full,wr15,Nat.le_refl,ti2,ti9,ti3,ti47,ti4,ti38,ti49,hb4]
  refine D_callL (c_have h.bare) (by omega) (by simp only [ev_func]) (by first | (simp only [evL,sS,↓sT,Nat.reduceLT,Nat.reduceEqDiff]; done) | (simp only [evL,sS,↓sT,Nat.reduceLT,Nat.reduceEqDiff]; rfl)) (h.lent rfl) (by first | rfl | exact vec_pl _) ?_
  simp only [sS,↓sT,Nat.reduceLT,Nat.reduceEqDiff,↓sD,↓D_g,memOk,lets0,lets1,List.not_mem_nil,not_false_eq_true,true_and,and_true,sG,opV,loudV,cellsOf,strOp,evL,Nat.reduceAdd,Int.reduceBEq,Int.reduceBNe,ti25,tag_cells,tag_isC,tag_full,tag_load,load_int,hIa,hIb,hI1,hI2,hI3,op_load,List.drop_zero,int_load,opZ_w,op_cells,op_isC,op_len,op_full,wr15,Nat.le_refl,ti2,ti9,ti3,ti47,ti4,ti38,ti49,hb4]
  refine D_callP (c_punnet_dot_Has _ h.bare.len _ _) (by simp only [ev_func]) (by simp only [evL,sS,↓sT,Nat.reduceLT,Nat.reduceEqDiff]; rfl) (by first | rfl | (simp only [List.map,vec_bare,tag_bare,op_bare]; done) | (simp only [List.map,vec_bare,tag_bare,op_bare]; exact rfl)) (by first | rfl | simp [vec_noP,tag_noP,op_noP]) (by first | rfl | simp [vec_noP,tag_noP,op_noP]) (by first | exact vec_bare _ | exact op_bare _ | rfl) ?_
  simp only [sS,↓sT,Nat.reduceLT,Nat.reduceEqDiff,↓sD,↓D_g,memOk,lets0,lets1,List.not_mem_nil,not_false_eq_true,true_and,and_true,sG,opV,loudV,cellsOf,strOp,evL,Nat.reduceAdd,Int.reduceBEq,Int.reduceBNe,ti25,tag_cells,tag_isC,tag_full,tag_load,load_int,hIa,hIb,hI1,hI2,hI3,op_load,List.drop_zero,int_load,opZ_w,op_cells,op_isC,op_len,op_full,wr15,Nat.le_refl,ti2,ti9,ti3,ti47,ti4,ti38,ti49,hb4]
  refine hN7 _ ?_; try clear hN7 hD7 N7
  refine WC_condE ?_
  simp only [sS,↓sT,Nat.reduceLT,Nat.reduceEqDiff,↓stepC_bool,hb4,Int.reduceBEq,Int.reduceBNe,beq_self_eq_true,bne_self_eq_false]
  refine ⟨fun hb8 => ?_,fun hb8 => ?_⟩
  ·refine WC_seqR (fun N9 hN9 hD9 => ?_)
   simp only [sS,↓sT,Nat.reduceLT,Nat.reduceEqDiff,↓sO,↓WOps_g,sG,opV,loudV,cellsOf,strOp,evL,Nat.reduceAdd,Int.reduceBEq,Int.reduceBNe,buildV,evParts,V.isCell,List.all_cons,List.all_nil,Bool.and_self,if_true,placesOf,fillV,List.getElem?_cons_zero,List.getElem?_cons_succ,List.length_cons,List.length_nil,Nat.zero_add,ne_eq,not_true_eq_false,false_or,gt_iff_lt,if_false,wrL,Option.map_some,List.set_cons_zero,List.set_cons_succ,ti49,tag_cells,tag_isC,tag_full,tag_load,load_int,hIa,hIb,hI1,hI2,hI3,op_load,List.drop_zero,int_load,opZ_w,op_cells,op_isC,op_len,op_full,wr15,Nat.le_refl,ti25,ti2,ti9,ti3,ti47,ti4,ti38,hb4,hb8]
   refine hN9 _ ?_; try clear hN9 hD9 N9
   refine WC_ret ?_; (try simp only [Exit.after,Exit.out]); refine Kend_ret1 (by simp only [resOf,resL,resV,mkS_get,slots_get,cellsOf,op_load,List.getElem?_cons_zero,List.getElem?_cons_succ,List.drop_zero,own_load3,zero_load,ok_op,ok_tup,ti49,sS,↓sT,Nat.reduceLT,Nat.reduceEqDiff]; rfl) rfl (by first | rfl | (simp only [op_load,List.getElem?_cons_zero,List.getElem?_cons_succ,List.drop_zero,own_load3,zero_load,ok_op,ok_tup,ti49]; done)) h.noP ?_
   clear hN6 hD6 N6
   first
   | (cases hb4; done)
   | (refine ⟨by rw [h.keep (fun q hq => hq)], ?_⟩; rw [keep_tup,findS,if_pos (by simpa using hb8),hod]; done)
   | (refine ⟨by rw [h.keep (fun q hq => hq)], ?_⟩; rw [keep_tup,findS,if_neg (by simpa using hb8)]; done)
  ·refine WC_skip ?_
   refine hN6 _ ?_; try clear hN6 hD6 N6
   refine WC_seqD mixed [] [0,0,0,0,0,0,0,0,0,0,0,0,0,0,0,0] (by decide +kernel) (fun N10 hN10 hD10 => ?_)
   simp only [sS,↓sT,Nat.reduceLT,Nat.reduceEqDiff,↓sD,↓D_g,memOk,lets0,lets1,List.not_mem_nil,not_false_eq_true,true_and,and_true,sG,opV,loudV,cellsOf,strOp,evL,Nat.reduceAdd,Int.reduceBEq,Int.reduceBNe,fS25,ti3,fS82,ti80,ti52,ti49,tag_cells,tag_isC,tag_full,tag_load,load_int,hIa,hIb,hI1,hI2,hI3,op_load,List.drop_zero,int_load,opZ_w,op_cells,op_isC,op_len,op_full,wr15,Nat.le_refl,ti25,ti2,ti9,ti47,ti4,ti38,hb4,hb8]
   refine D_callP (c_punnet_op_Own o (by obtain ⟨_,l,k1,k3,k4⟩ := hc (by simpa using hb8); exact hd l (List.mem_of_getElem? k1) o (List.mem_of_getElem? k4))) (by simp only [ev_func]) (by simp only [evL,sS,↓sT,Nat.reduceLT,Nat.reduceEqDiff]; rfl) (by first | rfl | (simp only [List.map,vec_bare,tag_bare,op_bare]; done) | (simp only [List.map,vec_bare,tag_bare,op_bare]; exact rfl)) (by first | rfl | simp [vec_noP,tag_noP,op_noP]) (by first | rfl | simp [vec_noP,tag_noP,op_noP]) (by first | exact vec_bare _ | exact op_bare _ | rfl) ?_
   simp only [sS,↓sT,Nat.reduceLT,Nat.reduceEqDiff,↓sD,↓D_g,memOk,lets0,lets1,List.not_mem_nil,not_false_eq_true,true_and,and_true,sG,opV,loudV,cellsOf,strOp,evL,Nat.reduceAdd,Int.reduceBEq,Int.reduceBNe,fS25,ti3,fS82,ti80,ti52,ti49,tag_cells,tag_isC,tag_full,tag_load,load_int,hIa,hIb,hI1,hI2,hI3,op_load,List.drop_zero,int_load,opZ_w,op_cells,op_isC,op_len,op_full,wr15,Nat.le_refl,ti25,ti2,ti9,ti47,ti4,ti38,hb4,hb8]
   refine hN10 _ ?_; try clear hN10 hD10 N10
   refine WC_ret ?_; (try simp only [Exit.after,Exit.out]); refine Kend_ret1 (by simp only [resOf,resL,resV,mkS_get,slots_get,cellsOf,op_load,List.getElem?_cons_zero,List.getElem?_cons_succ,List.drop_zero,own_load3,zero_load,ok_op,ok_tup,ti49,sS,↓sT,Nat.reduceLT,Nat.reduceEqDiff]; rfl) rfl (by first | rfl | (simp only [op_load,List.getElem?_cons_zero,List.getElem?_cons_succ,List.drop_zero,own_load3,zero_load,ok_op,ok_tup,ti49]; done)) h.noP ?_
   first
   | (cases hb4; done)
   | (refine ⟨by rw [h.keep (fun q hq => hq)], ?_⟩; rw [keep_tup,findS,if_pos (by simpa using hb8),hod]; done)
   | (refine ⟨by rw [h.keep (fun q hq => hq)], ?_⟩; rw [keep_tup,findS,if_neg (by simpa using hb8)]; done)
end Go.PV
