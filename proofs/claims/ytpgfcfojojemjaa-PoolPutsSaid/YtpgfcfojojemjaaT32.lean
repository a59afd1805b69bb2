/- Places of fields. -/
import Derived.Test.YtpgfcfojojemjaaT31
namespace Go.PV
open Go.Proofs
set_option linter.unusedVariables false
set_option linter.unusedSimpArgs false
set_option maxRecDepth 10000
set_option maxHeartbeats 1000000

def refW (s : Int) (g n : List UInt8) : V := .agg [.int .i64 s, .str g, .str n]
theorem ref_cells (s : Int) (g n : List UInt8) : (refW s g n).cells = [.int .i64 s, .str g, .str n] := rfl
theorem ref_bare (s : Int) (g n : List UInt8) : (refW s g n).bare = refW s g n := rfl
theorem ref_noP (s : Int) (g n : List UInt8) : (refW s g n).noP = true := rfl
theorem ref_isC (s : Int) (g n : List UInt8) : ([.int .i64 s, .str g, .str n] : List V).all V.isCell = true := rfl
theorem ref_full (a b c d e f : V) : wrL [a, b, c] 0 [d, e, f] = [d, e, f] := rfl
theorem ref_load {l : List (Nat × TypeId)} {b : Nat} {z : Option (List V)} {s : Int} {g n : List UInt8} {rest : List V} : loadV ⟨.struct l, 3, b, z⟩ (.int .i64 s :: .str g :: .str n :: rest) = some (refW s g n) := by simp [loadV, TD.agg, refW]
theorem ref_fold (s : Int) (g n : List UInt8) : V.agg [.int .i64 s, .str g, .str n] = refW s g n := rfl
theorem ref_eql (s s' : Int) (g n g' n' : List UInt8) : binV Try.prog .eql 47 (refW s g n) (refW s' g' n') = some (.bool ((s == s') && ((g == g') && (n == n')))) := by
  simp [binV,eqlV,refW,ti47,eqK47,cellsEq,cellEq]
def placeB (s : Int) (g n : List UInt8) : Bool := (decide (s = 0) || decide (s = 1)) && (nameB n && (g == [] || nameB g))
theorem place_scope (s : Int) : (decide (s = 0) || decide (s = 1)) = (decide (0 ≤ s) && decide (s ≤ 1)) := by
  rw [Bool.eq_iff_iff]; simp; omega
theorem c_punnet_field_Place (s : Int) (g n0 : List UInt8) : VC Try.prog 59 [refW s g n0] [] (fun r _ => r = .bool (placeB s g n0)) := by
 refine VC_enter (nt := 28) (rs := [.tmp 2]) (ow := []) (m := 0) Try.func59 rfl (by rfl) rfl rfl (by simp) rfl rfl (fun n => ?_)
 simp only [zipT,Nat.zero_add]
 refine WC_seqR (fun N1 hN1 hD1 => ?_)
 simp only [sS,↓sT,Nat.reduceLT,Nat.reduceEqDiff,↓sO,↓WOps_g,sG,opV,loudV,cellsOf,strOp,evL,Nat.reduceAdd,Int.reduceBEq,Int.reduceBNe,len_strN,bs_mk,gt_iff_lt,ref_cells,ref_isC,ref_full,load_str,load_int,int_load,ti47]
 refine hN1 _ ?_; try clear hN1 hD1 N1
 refine WC_seqR (fun N2 hN2 hD2 => ?_)
 simp only [sS,↓sT,Nat.reduceLT,Nat.reduceEqDiff,↓sO,↓WOps_g,sG,opV,loudV,cellsOf,strOp,evL,Nat.reduceAdd,Int.reduceBEq,Int.reduceBNe,fS47,ti3,len_strN,bs_mk,gt_iff_lt,ref_cells,ref_isC,ref_full,load_str,load_int,int_load,ti47]
 refine stepB_F (fun hg2_3 => ?_) (fun hg2_3 => ?_)
 ·simp only [sS,↓sT,Nat.reduceLT,Nat.reduceEqDiff,↓sO,↓WOps_g,sG,opV,loudV,cellsOf,strOp,evL,Nat.reduceAdd,Int.reduceBEq,Int.reduceBNe,fS47,ti3,len_strN,bs_mk,gt_iff_lt,ref_cells,ref_isC,ref_full,load_str,load_int,int_load,ti47,hg2_3]
  refine hN2 _ ?_; try clear hN2 hD2 N2
  refine WC_seqR (fun N3 hN3 hD3 => ?_)
  simp only [sS,↓sT,Nat.reduceLT,Nat.reduceEqDiff,↓sO,↓WOps_g,sG,opV,loudV,cellsOf,strOp,evL,Nat.reduceAdd,Int.reduceBEq,Int.reduceBNe,fS47,ti9,len_strN,bs_mk,gt_iff_lt,ref_cells,ref_isC,ref_full,load_str,load_int,int_load,ti47]
  refine stepB_T (fun hg3_1 => ?_) (fun hg3_1 => ?_)
  ·simp only [sS,↓sT,Nat.reduceLT,Nat.reduceEqDiff,↓sO,↓WOps_g,sG,opV,loudV,cellsOf,strOp,evL,Nat.reduceAdd,Int.reduceBEq,Int.reduceBNe,fS47,ti9,len_strN,bs_mk,gt_iff_lt,ref_cells,ref_isC,ref_full,load_str,load_int,int_load,ti47,hg3_1]
   refine WOps_callP (c_name _) (by simp only [ev_func]) (by simp only [evL,sS,↓sT,Nat.reduceLT,Nat.reduceEqDiff]; rfl) (by first | rfl | (simp only [List.map,bare_int]; done) | (simp only [List.map,bare_int]; exact rfl)) (by first | rfl | simp [noP_int]) (by first | rfl | simp [noP_int]) rfl ?_
   simp only [sS,↓sT,Nat.reduceLT,Nat.reduceEqDiff,↓sO,↓WOps_g,sG,opV,loudV,cellsOf,strOp,evL,Nat.reduceAdd,Int.reduceBEq,Int.reduceBNe,fS47,ti9,len_strN,bs_mk,gt_iff_lt,ref_cells,ref_isC,ref_full,load_str,load_int,int_load,ti47,hg3_1]
   refine stepB_T (fun hg3_6 => ?_) (fun hg3_6 => ?_)
   ·simp only [sS,↓sT,Nat.reduceLT,Nat.reduceEqDiff,↓sO,↓WOps_g,sG,opV,loudV,cellsOf,strOp,evL,Nat.reduceAdd,Int.reduceBEq,Int.reduceBNe,fS47,ti9,len_strN,bs_mk,gt_iff_lt,ref_cells,ref_isC,ref_full,load_str,load_int,int_load,ti47,hg3_1,hg3_6]
    refine stepB_F (fun hg3_10 => ?_) (fun hg3_10 => ?_)
    ·simp only [sS,↓sT,Nat.reduceLT,Nat.reduceEqDiff,↓sO,↓WOps_g,sG,opV,loudV,cellsOf,strOp,evL,Nat.reduceAdd,Int.reduceBEq,Int.reduceBNe,fS47,ti9,len_strN,bs_mk,gt_iff_lt,ref_cells,ref_isC,ref_full,load_str,load_int,int_load,ti47,hg3_1,hg3_6,hg3_10]
     refine WOps_callP (c_name _) (by simp only [ev_func]) (by simp only [evL,sS,↓sT,Nat.reduceLT,Nat.reduceEqDiff]; rfl) (by first | rfl | (simp only [List.map,bare_int]; done) | (simp only [List.map,bare_int]; exact rfl)) (by first | rfl | simp [noP_int]) (by first | rfl | simp [noP_int]) rfl ?_
     simp only [sS,↓sT,Nat.reduceLT,Nat.reduceEqDiff,↓sO,↓WOps_g,sG,opV,loudV,cellsOf,strOp,evL,Nat.reduceAdd,Int.reduceBEq,Int.reduceBNe,fS47,ti9,len_strN,bs_mk,gt_iff_lt,ref_cells,ref_isC,ref_full,load_str,load_int,int_load,ti47,hg3_1,hg3_6,hg3_10]
     refine hN3 _ ?_; try clear hN3 hD3 N3
     refine WC_ret ?_; (try simp only [Exit.after,Exit.out]); refine Kend_ret (by simp only [resOf,resL,resV,mkS_get,slots_get,cellsOf,ti3,sS,↓sT,Nat.reduceLT,Nat.reduceEqDiff]; rfl) (by first | rfl | (simp only [ti3]; done) | (simp only [ti3,okV,ok1,okC,okP,List.all_cons,List.all_nil,Bool.and_true]; done)) ?_
     (simp_all [placeB,keep_bool] <;> omega)
    ·simp only [sS,↓sT,Nat.reduceLT,Nat.reduceEqDiff,↓sO,↓WOps_g,sG,opV,loudV,cellsOf,strOp,evL,Nat.reduceAdd,Int.reduceBEq,Int.reduceBNe,fS47,ti9,len_strN,bs_mk,gt_iff_lt,ref_cells,ref_isC,ref_full,load_str,load_int,int_load,ti47,hg3_1,hg3_6,hg3_10]
     refine hN3 _ ?_; try clear hN3 hD3 N3
     refine WC_ret ?_; (try simp only [Exit.after,Exit.out]); refine Kend_ret (by simp only [resOf,resL,resV,mkS_get,slots_get,cellsOf,ti3,sS,↓sT,Nat.reduceLT,Nat.reduceEqDiff]; rfl) (by first | rfl | (simp only [ti3]; done) | (simp only [ti3,okV,ok1,okC,okP,List.all_cons,List.all_nil,Bool.and_true]; done)) ?_
     (simp_all [placeB,keep_bool] <;> omega)
   ·simp only [sS,↓sT,Nat.reduceLT,Nat.reduceEqDiff,↓sO,↓WOps_g,sG,opV,loudV,cellsOf,strOp,evL,Nat.reduceAdd,Int.reduceBEq,Int.reduceBNe,fS47,ti9,len_strN,bs_mk,gt_iff_lt,ref_cells,ref_isC,ref_full,load_str,load_int,int_load,ti47,hg3_1,hg3_6]
    refine hN3 _ ?_; try clear hN3 hD3 N3
    refine WC_ret ?_; (try simp only [Exit.after,Exit.out]); refine Kend_ret (by simp only [resOf,resL,resV,mkS_get,slots_get,cellsOf,ti3,sS,↓sT,Nat.reduceLT,Nat.reduceEqDiff]; rfl) (by first | rfl | (simp only [ti3]; done) | (simp only [ti3,okV,ok1,okC,okP,List.all_cons,List.all_nil,Bool.and_true]; done)) ?_
    (simp_all [placeB,keep_bool] <;> omega)
  ·simp only [sS,↓sT,Nat.reduceLT,Nat.reduceEqDiff,↓sO,↓WOps_g,sG,opV,loudV,cellsOf,strOp,evL,Nat.reduceAdd,Int.reduceBEq,Int.reduceBNe,fS47,ti9,len_strN,bs_mk,gt_iff_lt,ref_cells,ref_isC,ref_full,load_str,load_int,int_load,ti47,hg3_1]
   refine hN3 _ ?_; try clear hN3 hD3 N3
   refine WC_ret ?_; (try simp only [Exit.after,Exit.out]); refine Kend_ret (by simp only [resOf,resL,resV,mkS_get,slots_get,cellsOf,ti3,sS,↓sT,Nat.reduceLT,Nat.reduceEqDiff]; rfl) (by first | rfl | (simp only [ti3]; done) | (simp only [ti3,okV,ok1,okC,okP,List.all_cons,List.all_nil,Bool.and_true]; done)) ?_
   (simp_all [placeB,keep_bool] <;> omega)
 ·simp only [sS,↓sT,Nat.reduceLT,Nat.reduceEqDiff,↓sO,↓WOps_g,sG,opV,loudV,cellsOf,strOp,evL,Nat.reduceAdd,Int.reduceBEq,Int.reduceBNe,fS47,ti3,len_strN,bs_mk,gt_iff_lt,ref_cells,ref_isC,ref_full,load_str,load_int,int_load,ti47,hg2_3]
  refine hN2 _ ?_; try clear hN2 hD2 N2
  refine WC_seqR (fun N4 hN4 hD4 => ?_)
  simp only [sS,↓sT,Nat.reduceLT,Nat.reduceEqDiff,↓sO,↓WOps_g,sG,opV,loudV,cellsOf,strOp,evL,Nat.reduceAdd,Int.reduceBEq,Int.reduceBNe,fS47,ti9,len_strN,bs_mk,gt_iff_lt,ref_cells,ref_isC,ref_full,load_str,load_int,int_load,ti47]
  refine WOps_callP (c_name _) (by simp only [ev_func]) (by simp only [evL,sS,↓sT,Nat.reduceLT,Nat.reduceEqDiff]; rfl) (by first | rfl | (simp only [List.map,bare_int]; done) | (simp only [List.map,bare_int]; exact rfl)) (by first | rfl | simp [noP_int]) (by first | rfl | simp [noP_int]) rfl ?_
  simp only [sS,↓sT,Nat.reduceLT,Nat.reduceEqDiff,↓sO,↓WOps_g,sG,opV,loudV,cellsOf,strOp,evL,Nat.reduceAdd,Int.reduceBEq,Int.reduceBNe,fS47,ti9,len_strN,bs_mk,gt_iff_lt,ref_cells,ref_isC,ref_full,load_str,load_int,int_load,ti47]
  refine stepB_T (fun hg4_6 => ?_) (fun hg4_6 => ?_)
  ·simp only [sS,↓sT,Nat.reduceLT,Nat.reduceEqDiff,↓sO,↓WOps_g,sG,opV,loudV,cellsOf,strOp,evL,Nat.reduceAdd,Int.reduceBEq,Int.reduceBNe,fS47,ti9,len_strN,bs_mk,gt_iff_lt,ref_cells,ref_isC,ref_full,load_str,load_int,int_load,ti47,hg4_6]
   refine stepB_F (fun hg4_10 => ?_) (fun hg4_10 => ?_)
   ·simp only [sS,↓sT,Nat.reduceLT,Nat.reduceEqDiff,↓sO,↓WOps_g,sG,opV,loudV,cellsOf,strOp,evL,Nat.reduceAdd,Int.reduceBEq,Int.reduceBNe,fS47,ti9,len_strN,bs_mk,gt_iff_lt,ref_cells,ref_isC,ref_full,load_str,load_int,int_load,ti47,hg4_6,hg4_10]
    refine WOps_callP (c_name _) (by simp only [ev_func]) (by simp only [evL,sS,↓sT,Nat.reduceLT,Nat.reduceEqDiff]; rfl) (by first | rfl | (simp only [List.map,bare_int]; done) | (simp only [List.map,bare_int]; exact rfl)) (by first | rfl | simp [noP_int]) (by first | rfl | simp [noP_int]) rfl ?_
    simp only [sS,↓sT,Nat.reduceLT,Nat.reduceEqDiff,↓sO,↓WOps_g,sG,opV,loudV,cellsOf,strOp,evL,Nat.reduceAdd,Int.reduceBEq,Int.reduceBNe,fS47,ti9,len_strN,bs_mk,gt_iff_lt,ref_cells,ref_isC,ref_full,load_str,load_int,int_load,ti47,hg4_6,hg4_10]
    refine hN4 _ ?_; try clear hN4 hD4 N4
    refine WC_ret ?_; (try simp only [Exit.after,Exit.out]); refine Kend_ret (by simp only [resOf,resL,resV,mkS_get,slots_get,cellsOf,ti3,sS,↓sT,Nat.reduceLT,Nat.reduceEqDiff]; rfl) (by first | rfl | (simp only [ti3]; done) | (simp only [ti3,okV,ok1,okC,okP,List.all_cons,List.all_nil,Bool.and_true]; done)) ?_
    (simp_all [placeB,keep_bool] <;> omega)
   ·simp only [sS,↓sT,Nat.reduceLT,Nat.reduceEqDiff,↓sO,↓WOps_g,sG,opV,loudV,cellsOf,strOp,evL,Nat.reduceAdd,Int.reduceBEq,Int.reduceBNe,fS47,ti9,len_strN,bs_mk,gt_iff_lt,ref_cells,ref_isC,ref_full,load_str,load_int,int_load,ti47,hg4_6,hg4_10]
    refine hN4 _ ?_; try clear hN4 hD4 N4
    refine WC_ret ?_; (try simp only [Exit.after,Exit.out]); refine Kend_ret (by simp only [resOf,resL,resV,mkS_get,slots_get,cellsOf,ti3,sS,↓sT,Nat.reduceLT,Nat.reduceEqDiff]; rfl) (by first | rfl | (simp only [ti3]; done) | (simp only [ti3,okV,ok1,okC,okP,List.all_cons,List.all_nil,Bool.and_true]; done)) ?_
    (simp_all [placeB,keep_bool] <;> omega)
  ·simp only [sS,↓sT,Nat.reduceLT,Nat.reduceEqDiff,↓sO,↓WOps_g,sG,opV,loudV,cellsOf,strOp,evL,Nat.reduceAdd,Int.reduceBEq,Int.reduceBNe,fS47,ti9,len_strN,bs_mk,gt_iff_lt,ref_cells,ref_isC,ref_full,load_str,load_int,int_load,ti47,hg4_6]
   refine hN4 _ ?_; try clear hN4 hD4 N4
   refine WC_ret ?_; (try simp only [Exit.after,Exit.out]); refine Kend_ret (by simp only [resOf,resL,resV,mkS_get,slots_get,cellsOf,ti3,sS,↓sT,Nat.reduceLT,Nat.reduceEqDiff]; rfl) (by first | rfl | (simp only [ti3]; done) | (simp only [ti3,okV,ok1,okC,okP,List.all_cons,List.all_nil,Bool.and_true]; done)) ?_
   (simp_all [placeB,keep_bool] <;> omega)
theorem c_punnet_punnetref13_Place (s : Int) (g n0 : List UInt8) : VC Try.prog 69 [refW s g n0] [] (fun r _ => r = .bool (placeB s g n0)) := by
 refine VC_enter (nt := 27) (rs := [.tmp 2]) (ow := []) (m := 0) Try.func69 rfl (by rfl) rfl rfl (by simp) rfl rfl (fun n => ?_)
 simp only [zipT,Nat.zero_add]
 refine WC_seqR (fun N1 hN1 hD1 => ?_)
 simp only [sS,↓sT,Nat.reduceLT,Nat.reduceEqDiff,↓sO,↓WOps_g,sG,opV,loudV,cellsOf,strOp,evL,Nat.reduceAdd,Int.reduceBEq,Int.reduceBNe,len_strN,bs_mk,gt_iff_lt,ref_cells,ref_isC,ref_full,load_str,load_int,int_load,ti47]
 refine hN1 _ ?_; try clear hN1 hD1 N1
 refine WC_seqR (fun N2 hN2 hD2 => ?_)
 simp only [sS,↓sT,Nat.reduceLT,Nat.reduceEqDiff,↓sO,↓WOps_g,sG,opV,loudV,cellsOf,strOp,evL,Nat.reduceAdd,Int.reduceBEq,Int.reduceBNe,fS47,ti3,ti9,len_strN,bs_mk,gt_iff_lt,ref_cells,ref_isC,ref_full,load_str,load_int,int_load,ti47]
 refine stepB_T (fun hg2_3 => ?_) (fun hg2_3 => ?_)
 ·simp only [sS,↓sT,Nat.reduceLT,Nat.reduceEqDiff,↓sO,↓WOps_g,sG,opV,loudV,cellsOf,strOp,evL,Nat.reduceAdd,Int.reduceBEq,Int.reduceBNe,fS47,ti3,ti9,len_strN,bs_mk,gt_iff_lt,ref_cells,ref_isC,ref_full,load_str,load_int,int_load,ti47,hg2_3]
  refine stepB_T (fun hg2_8 => ?_) (fun hg2_8 => ?_)
  ·simp only [sS,↓sT,Nat.reduceLT,Nat.reduceEqDiff,↓sO,↓WOps_g,sG,opV,loudV,cellsOf,strOp,evL,Nat.reduceAdd,Int.reduceBEq,Int.reduceBNe,fS47,ti3,ti9,len_strN,bs_mk,gt_iff_lt,ref_cells,ref_isC,ref_full,load_str,load_int,int_load,ti47,hg2_3,hg2_8]
   refine WOps_callP (c_refname _) (by simp only [ev_func]) (by simp only [evL,sS,↓sT,Nat.reduceLT,Nat.reduceEqDiff]; rfl) (by first | rfl | (simp only [List.map,bare_int]; done) | (simp only [List.map,bare_int]; exact rfl)) (by first | rfl | simp [noP_int]) (by first | rfl | simp [noP_int]) rfl ?_
   simp only [sS,↓sT,Nat.reduceLT,Nat.reduceEqDiff,↓sO,↓WOps_g,sG,opV,loudV,cellsOf,strOp,evL,Nat.reduceAdd,Int.reduceBEq,Int.reduceBNe,fS47,ti3,ti9,len_strN,bs_mk,gt_iff_lt,ref_cells,ref_isC,ref_full,load_str,load_int,int_load,ti47,hg2_3,hg2_8]
   refine stepB_T (fun hg2_13 => ?_) (fun hg2_13 => ?_)
   ·simp only [sS,↓sT,Nat.reduceLT,Nat.reduceEqDiff,↓sO,↓WOps_g,sG,opV,loudV,cellsOf,strOp,evL,Nat.reduceAdd,Int.reduceBEq,Int.reduceBNe,fS47,ti3,ti9,len_strN,bs_mk,gt_iff_lt,ref_cells,ref_isC,ref_full,load_str,load_int,int_load,ti47,hg2_3,hg2_8,hg2_13]
    refine stepB_F (fun hg2_18 => ?_) (fun hg2_18 => ?_)
    ·simp only [sS,↓sT,Nat.reduceLT,Nat.reduceEqDiff,↓sO,↓WOps_g,sG,opV,loudV,cellsOf,strOp,evL,Nat.reduceAdd,Int.reduceBEq,Int.reduceBNe,fS47,ti3,ti9,len_strN,bs_mk,gt_iff_lt,ref_cells,ref_isC,ref_full,load_str,load_int,int_load,ti47,hg2_3,hg2_8,hg2_13,hg2_18]
     refine WOps_callP (c_refname _) (by simp only [ev_func]) (by simp only [evL,sS,↓sT,Nat.reduceLT,Nat.reduceEqDiff]; rfl) (by first | rfl | (simp only [List.map,bare_int]; done) | (simp only [List.map,bare_int]; exact rfl)) (by first | rfl | simp [noP_int]) (by first | rfl | simp [noP_int]) rfl ?_
     simp only [sS,↓sT,Nat.reduceLT,Nat.reduceEqDiff,↓sO,↓WOps_g,sG,opV,loudV,cellsOf,strOp,evL,Nat.reduceAdd,Int.reduceBEq,Int.reduceBNe,fS47,ti3,ti9,len_strN,bs_mk,gt_iff_lt,ref_cells,ref_isC,ref_full,load_str,load_int,int_load,ti47,hg2_3,hg2_8,hg2_13,hg2_18]
     refine hN2 _ ?_; try clear hN2 hD2 N2
     refine WC_ret ?_; (try simp only [Exit.after,Exit.out]); refine Kend_ret (by simp only [resOf,resL,resV,mkS_get,slots_get,cellsOf,ti3,sS,↓sT,Nat.reduceLT,Nat.reduceEqDiff]; rfl) (by first | rfl | (simp only [ti3]; done) | (simp only [ti3,okV,ok1,okC,okP,List.all_cons,List.all_nil,Bool.and_true]; done)) ?_
     rw [keep_bool,placeB,place_scope]
     first | (simp_all; done) | (simp_all; omega)
    ·simp only [sS,↓sT,Nat.reduceLT,Nat.reduceEqDiff,↓sO,↓WOps_g,sG,opV,loudV,cellsOf,strOp,evL,Nat.reduceAdd,Int.reduceBEq,Int.reduceBNe,fS47,ti3,ti9,len_strN,bs_mk,gt_iff_lt,ref_cells,ref_isC,ref_full,load_str,load_int,int_load,ti47,hg2_3,hg2_8,hg2_13,hg2_18]
     refine hN2 _ ?_; try clear hN2 hD2 N2
     refine WC_ret ?_; (try simp only [Exit.after,Exit.out]); refine Kend_ret (by simp only [resOf,resL,resV,mkS_get,slots_get,cellsOf,ti3,sS,↓sT,Nat.reduceLT,Nat.reduceEqDiff]; rfl) (by first | rfl | (simp only [ti3]; done) | (simp only [ti3,okV,ok1,okC,okP,List.all_cons,List.all_nil,Bool.and_true]; done)) ?_
     rw [keep_bool,placeB,place_scope]
     first | (simp_all; done) | (simp_all; omega)
   ·simp only [sS,↓sT,Nat.reduceLT,Nat.reduceEqDiff,↓sO,↓WOps_g,sG,opV,loudV,cellsOf,strOp,evL,Nat.reduceAdd,Int.reduceBEq,Int.reduceBNe,fS47,ti3,ti9,len_strN,bs_mk,gt_iff_lt,ref_cells,ref_isC,ref_full,load_str,load_int,int_load,ti47,hg2_3,hg2_8,hg2_13]
    refine hN2 _ ?_; try clear hN2 hD2 N2
    refine WC_ret ?_; (try simp only [Exit.after,Exit.out]); refine Kend_ret (by simp only [resOf,resL,resV,mkS_get,slots_get,cellsOf,ti3,sS,↓sT,Nat.reduceLT,Nat.reduceEqDiff]; rfl) (by first | rfl | (simp only [ti3]; done) | (simp only [ti3,okV,ok1,okC,okP,List.all_cons,List.all_nil,Bool.and_true]; done)) ?_
    rw [keep_bool,placeB,place_scope]
    first | (simp_all; done) | (simp_all; omega)
  ·simp only [sS,↓sT,Nat.reduceLT,Nat.reduceEqDiff,↓sO,↓WOps_g,sG,opV,loudV,cellsOf,strOp,evL,Nat.reduceAdd,Int.reduceBEq,Int.reduceBNe,fS47,ti3,ti9,len_strN,bs_mk,gt_iff_lt,ref_cells,ref_isC,ref_full,load_str,load_int,int_load,ti47,hg2_3,hg2_8]
   refine hN2 _ ?_; try clear hN2 hD2 N2
   refine WC_ret ?_; (try simp only [Exit.after,Exit.out]); refine Kend_ret (by simp only [resOf,resL,resV,mkS_get,slots_get,cellsOf,ti3,sS,↓sT,Nat.reduceLT,Nat.reduceEqDiff]; rfl) (by first | rfl | (simp only [ti3]; done) | (simp only [ti3,okV,ok1,okC,okP,List.all_cons,List.all_nil,Bool.and_true]; done)) ?_
   rw [keep_bool,placeB,place_scope]
   first | (simp_all; done) | (simp_all; omega)
 ·simp only [sS,↓sT,Nat.reduceLT,Nat.reduceEqDiff,↓sO,↓WOps_g,sG,opV,loudV,cellsOf,strOp,evL,Nat.reduceAdd,Int.reduceBEq,Int.reduceBNe,fS47,ti3,ti9,len_strN,bs_mk,gt_iff_lt,ref_cells,ref_isC,ref_full,load_str,load_int,int_load,ti47,hg2_3]
  refine hN2 _ ?_; try clear hN2 hD2 N2
  refine WC_ret ?_; (try simp only [Exit.after,Exit.out]); refine Kend_ret (by simp only [resOf,resL,resV,mkS_get,slots_get,cellsOf,ti3,sS,↓sT,Nat.reduceLT,Nat.reduceEqDiff]; rfl) (by first | rfl | (simp only [ti3]; done) | (simp only [ti3,okV,ok1,okC,okP,List.all_cons,List.all_nil,Bool.and_true]; done)) ?_
  rw [keep_bool,placeB,place_scope]
  first | (simp_all; done) | (simp_all; omega)
end Go.PV
/- Drops of ops. -/
namespace Go.PV
open Go.Proofs
set_option linter.unusedVariables false
set_option linter.unusedSimpArgs false
set_option maxRecDepth 10000
set_option maxHeartbeats 1000000

/-- one drop, behind the one before it -/
def dropB (id : Int × Int) (p : Option (Int × Int)) (q : Int × Int) : Bool :=
  tagB q.1 q.2 && (!(q.1 == id.1 && q.2 == id.2) && (match p with | none => true | some p => lessB p.1 p.2 q.1 q.2))
def chainB (id : Int × Int) : Option (Int × Int) → List (Int × Int) → Bool
  | _, [] => true
  | p,q :: l => dropB id p q && chainB id (some q) l
def prevAt (l : List (Int × Int)) (t : Nat) : Option (Int × Int) := if t = 0 then none else l[t - 1]?
theorem chain_step {id : Int × Int} {l : List (Int × Int)} {t : Nat} {q : Int × Int} (h : l[t]? = some q) : chainB id (prevAt l t) (l.drop t) = (dropB id (prevAt l t) q && chainB id (prevAt l (t + 1)) (l.drop (t + 1))) := by
  obtain ⟨h1,h2⟩ := List.getElem?_eq_some_iff.1 h
  rw [List.drop_eq_getElem_cons h1,h2,chainB]
  congr 2
  simp [prevAt,h]
def dropsB (o : OpS) : Bool := decide ((o.dropsL.length : Int) ≤ 60) && chainB (o.idR, o.idN) none o.dropsL
theorem c_punnet_op_drops (o : OpS) : VC Try.prog 57 [opW o] [] (fun r _ => r = .bool (dropsB o)) := by
 refine VC_enter (nt := 42) (rs := [.tmp 2]) (ow := []) (m := 0) Try.func57 rfl (by rfl) rfl rfl (by simp) (by simp [ownOf,op_toks]) rfl (fun n => ?_)
 simp only [zipT,Nat.zero_add]
 have hx := dropsW_TS o.drops
 obtain ⟨l,hl⟩ : ∃ l,o.drops.l = l := ⟨_,rfl⟩
 obtain ⟨x,hxd⟩ : ∃ x,dropsW o.drops = x := ⟨_,rfl⟩
 have hspec : dropsB o = (decide ((l.length : Int) ≤ 60) && chainB (o.idR,o.idN) none l) := by rw [dropsB,OpS.dropsL,hl]
 have hxc : x.isCell = true := hxd ▸ dropsW_isC o.drops
 rw [hl,hxd] at hx
 refine WC_seqR (fun N1 hN1 hD1 => ?_)
 simp only [sS,↓sT,Nat.reduceLT,Nat.reduceEqDiff,↓sO,↓WOps_g,sG,opV,loudV,cellsOf,strOp,evL,Nat.reduceAdd,Int.reduceBEq,Int.reduceBNe,op_cells,List.all_cons,List.all_nil,icell_int,icell_str,icell_bool,hxc,Bool.and_self,opCells,hxd,hx.len,load_slice,load_int,tag_load2,tag_load,gt_iff_lt,ti25,ti49,tag_cells,tag_isC,tag_eql,tag_full,cat_at,cat_set,lth0,lth1,lth2,List.length_append,Nat.lt_add_one]
 refine hN1 _ ?_; try clear hN1 hD1 N1
 refine WC_seqN (fun N2 hN2 hD2 => ?_)
 refine WC_seqR (fun N3 hN3 hD3 => ?_)
 simp only [sS,↓sT,Nat.reduceLT,Nat.reduceEqDiff,↓sO,↓WOps_g,sG,opV,loudV,cellsOf,strOp,evL,Nat.reduceAdd,Int.reduceBEq,Int.reduceBNe,fS49,ti38,op_cells,List.all_cons,List.all_nil,icell_int,icell_str,icell_bool,hxc,Bool.and_self,opCells,hxd,hx.len,load_slice,load_int,tag_load2,tag_load,gt_iff_lt,ti25,ti49,tag_cells,tag_isC,tag_eql,tag_full,cat_at,cat_set,lth0,lth1,lth2,List.length_append,Nat.lt_add_one]
 refine hN3 _ ?_; try clear hN3 hD3 N3
 refine WC_condE ?_
 simp only [sS,↓sT,Nat.reduceLT,Nat.reduceEqDiff,↓stepC_bool]
 refine ⟨fun hb4 => ?_,fun hb4 => ?_⟩
 ·refine WC_seqR (fun N5 hN5 hD5 => ?_)
  simp only [sS,↓sT,Nat.reduceLT,Nat.reduceEqDiff,↓sO,↓WOps_g,sG,opV,loudV,cellsOf,strOp,evL,Nat.reduceAdd,Int.reduceBEq,Int.reduceBNe,op_cells,List.all_cons,List.all_nil,icell_int,icell_str,icell_bool,hxc,Bool.and_self,opCells,hxd,hx.len,load_slice,load_int,tag_load2,tag_load,gt_iff_lt,ti25,ti49,tag_cells,tag_isC,tag_eql,tag_full,cat_at,cat_set,lth0,lth1,lth2,List.length_append,Nat.lt_add_one]
  refine hN5 _ ?_; try clear hN5 hD5 N5
  refine WC_ret ?_; (try simp only [Exit.after,Exit.out]); refine Kend_ret (by simp only [resOf,resL,resV,mkS_get,slots_get,cellsOf,ti3,sS,↓sT,Nat.reduceLT,Nat.reduceEqDiff]; rfl) (by first | rfl | (simp only [ti3]; done) | (simp only [ti3,okV,ok1,okC,okP,List.all_cons,List.all_nil,Bool.and_true]; done)) ?_
  clear hN2 hD2 N2
  rw [keep_bool,hspec]
  first | (have hc := of_decide_eq_true hb4; rw [decide_eq_false (by omega)]; rfl) | skip
  first | (rw [ht,List.drop_length] at hch; rw [hlen,hch]; rfl) | skip
  all_goals (rw [hlen,hch,hst]; simp_all [dropB])
 ·refine WC_skip ?_
  refine hN2 _ ?_; try clear hN2 hD2 N2
  refine WC_seqN (fun N6 hN6 hD6 => ?_)
  refine WC_seqR (fun N7 hN7 hD7 => ?_)
  simp only [sS,↓sT,Nat.reduceLT,Nat.reduceEqDiff,↓sO,↓WOps_g,sG,opV,loudV,cellsOf,strOp,evL,Nat.reduceAdd,Int.reduceBEq,Int.reduceBNe,fS49,ti38,op_cells,List.all_cons,List.all_nil,icell_int,icell_str,icell_bool,hxc,Bool.and_self,opCells,hxd,hx.len,load_slice,load_int,tag_load2,tag_load,gt_iff_lt,ti25,ti49,tag_cells,tag_isC,tag_eql,tag_full,cat_at,cat_set,lth0,lth1,lth2,List.length_append,Nat.lt_add_one]
  refine hN7 _ ?_; try clear hN7 hD7 N7
  refine WC_block ?_
  have hlen : decide ((l.length : Int) ≤ 60) = true := decide_eq_true (by have := of_decide_eq_false hb4; omega)
  have hl60 : l.length ≤ 60 := by have := of_decide_eq_true hlen; omega
  refine WC_loopG (σ := Nat) (fun t s => ∃ ps hs,s = ⟨mkS 42 ps,opCells o :: hs, [],n⟩ ∧ Has ps [(1, .ptr 0 0),(10,x),(11, .int .i64 l.length),(12, .int .i64 t)] ∧ t ≤ l.length ∧ chainB (o.idR,o.idN) none l = chainB (o.idR,o.idN) (prevAt l t) (l.drop t)) (fun t => l.length - t) 0 ?_ (fun t s hI => ?_)
  · exact ⟨_,_,by rw [opCells,hxd],⟨rfl,rfl,rfl,rfl,trivial⟩,by omega,rfl⟩
  obtain ⟨ps,hs,rfl,hps,htl,hch⟩ := hI
  refine WC_has hps ?_; clear hps ps
  refine WC_seqR (fun N8 hN8 hD8 => ?_)
  simp only [sS,↓sT,Nat.reduceLT,Nat.reduceEqDiff,↓sO,↓WOps_g,sG,opV,loudV,cellsOf,strOp,evL,Nat.reduceAdd,Int.reduceBEq,Int.reduceBNe,op_cells,List.all_cons,List.all_nil,icell_int,icell_str,icell_bool,hxc,Bool.and_self,opCells,hxd,hx.len,load_slice,load_int,tag_load2,tag_load,gt_iff_lt,ti25,ti49,tag_cells,tag_isC,tag_eql,tag_full,cat_at,cat_set,lth0,lth1,lth2,List.length_append,Nat.lt_add_one]
  refine hN8 _ ?_; try clear hN8 hD8 N8
  refine WC_seqN (fun N9 hN9 hD9 => ?_)
  refine WC_condE ?_
  simp only [sS,↓sT,Nat.reduceLT,Nat.reduceEqDiff,↓stepC_bool]
  refine ⟨fun hb10 => ?_,fun hb10 => ?_⟩
  ·have ht : t < l.length := by have := of_decide_eq_true hb10; omega
   clear hb10
   obtain ⟨q,hq⟩ : ∃ q,l[t]? = some q := ⟨_,List.getElem?_eq_getElem ht⟩
   obtain ⟨p,hp⟩ : ∃ p,0 < t → l[t - 1]? = some p := ⟨l.getD (t - 1) q,fun h => by simp [List.getD,List.getElem?_eq_getElem (show t - 1 < l.length by omega)]⟩
   have hst := chain_step (id := (o.idR,o.idN)) hq
   have hqi := hx.ia hq
   have hpi : decide (0 < (t : Int)) = true → indexAddrV Try.prog 38 x (.int .i64 ((t : Int) - 1)) = some (.rptr [.int .i64 p.1, .int .i64 p.2]) := fun h => by
     have h := of_decide_eq_true h
     have := hx.ia (hp (by omega))
     rwa [show ((t - 1 : Nat) : Int) = (t : Int) - 1 from by omega] at this
   have hpv : prevAt l t = if decide (0 < (t : Int)) = true then some p else none := by
     unfold prevAt
     by_cases h : t = 0
     · rw [if_pos h,if_neg (by simp; omega)]
     · rw [if_neg h,if_pos (by simp; omega),hp (by omega)]
   rw [hpv] at hst hch
   clear hpv
   refine WC_skip ?_
   refine hN9 _ ?_; try clear hN9 hD9 N9
   refine WC_seqN (fun N11 hN11 hD11 => ?_)
   refine WC_block ?_
   refine WC_seqR (fun N12 hN12 hD12 => ?_)
   simp only [sS,↓sT,Nat.reduceLT,Nat.reduceEqDiff,↓sO,↓WOps_g,sG,opV,loudV,cellsOf,strOp,evL,Nat.reduceAdd,Int.reduceBEq,Int.reduceBNe,ti38,ti25,op_cells,List.all_cons,List.all_nil,icell_int,icell_str,icell_bool,hxc,Bool.and_self,opCells,hxd,hx.len,load_slice,load_int,tag_load2,tag_load,gt_iff_lt,ti49,tag_cells,tag_isC,tag_eql,tag_full,cat_at,cat_set,lth0,lth1,lth2,List.length_append,Nat.lt_add_one,hqi,hpi,wrapI (x := (t : Int) + 1) (by omega) (by omega),wrapI (x := (t : Int) - 1) (by omega) (by omega)]
   refine hN12 _ ?_; try clear hN12 hD12 N12
   refine WC_seqD mixed [] [0,0,0,0,0,0,0,0,0,0,0,0,0,0,0,0,0,0,0,0,0,0,0,0] (by decide +kernel) (fun N13 hN13 hD13 => ?_)
   simp only [sS,↓sT,Nat.reduceLT,Nat.reduceEqDiff,↓sD,↓D_g,memOk,lets0,lets1,List.not_mem_nil,not_false_eq_true,true_and,and_true,sG,opV,loudV,cellsOf,strOp,evL,Nat.reduceAdd,Int.reduceBEq,Int.reduceBNe,ti25,fS49,ti38,op_cells,List.all_cons,List.all_nil,icell_int,icell_str,icell_bool,hxc,Bool.and_self,opCells,hxd,hx.len,load_slice,load_int,tag_load2,tag_load,gt_iff_lt,ti49,tag_cells,tag_isC,tag_eql,tag_full,cat_at,cat_set,lth0,lth1,lth2,List.length_append,Nat.lt_add_one,hqi,hpi,wrapI (x := (t : Int) + 1) (by omega) (by omega),wrapI (x := (t : Int) - 1) (by omega) (by omega)]
   refine D_callP (c_punnet_tree_Tag _ _) (by simp only [ev_func]) (by simp only [evL,sS,↓sT,Nat.reduceLT,Nat.reduceEqDiff]; rfl) (by first | rfl | (simp only [List.map,tag_bare]; done) | (simp only [List.map,tag_bare]; exact rfl)) (by first | rfl | simp [tag_noP]) (by first | rfl | simp [tag_noP]) rfl ?_
   simp only [sS,↓sT,Nat.reduceLT,Nat.reduceEqDiff,↓sD,↓D_g,memOk,lets0,lets1,List.not_mem_nil,not_false_eq_true,true_and,and_true,sG,opV,loudV,cellsOf,strOp,evL,Nat.reduceAdd,Int.reduceBEq,Int.reduceBNe,ti25,fS49,ti38,op_cells,List.all_cons,List.all_nil,icell_int,icell_str,icell_bool,hxc,Bool.and_self,opCells,hxd,hx.len,load_slice,load_int,tag_load2,tag_load,gt_iff_lt,ti49,tag_cells,tag_isC,tag_eql,tag_full,cat_at,cat_set,lth0,lth1,lth2,List.length_append,Nat.lt_add_one,hqi,hpi,wrapI (x := (t : Int) + 1) (by omega) (by omega),wrapI (x := (t : Int) - 1) (by omega) (by omega)]
   refine stepB_F (fun hg13_3 => ?_) (fun hg13_3 => ?_)
   ·simp only [sS,↓sT,Nat.reduceLT,Nat.reduceEqDiff,↓sD,↓D_g,memOk,lets0,lets1,List.not_mem_nil,not_false_eq_true,true_and,and_true,sG,opV,loudV,cellsOf,strOp,evL,Nat.reduceAdd,Int.reduceBEq,Int.reduceBNe,ti25,fS49,ti38,op_cells,List.all_cons,List.all_nil,icell_int,icell_str,icell_bool,hxc,Bool.and_self,opCells,hxd,hx.len,load_slice,load_int,tag_load2,tag_load,gt_iff_lt,ti49,tag_cells,tag_isC,tag_eql,tag_full,cat_at,cat_set,lth0,lth1,lth2,List.length_append,Nat.lt_add_one,hqi,hpi,wrapI (x := (t : Int) + 1) (by omega) (by omega),wrapI (x := (t : Int) - 1) (by omega) (by omega),hg13_3]
    refine stepB_F (fun hg13_9 => ?_) (fun hg13_9 => ?_)
    ·simp only [sS,↓sT,Nat.reduceLT,Nat.reduceEqDiff,↓sD,↓D_g,memOk,lets0,lets1,List.not_mem_nil,not_false_eq_true,true_and,and_true,sG,opV,loudV,cellsOf,strOp,evL,Nat.reduceAdd,Int.reduceBEq,Int.reduceBNe,ti25,fS49,ti38,op_cells,List.all_cons,List.all_nil,icell_int,icell_str,icell_bool,hxc,Bool.and_self,opCells,hxd,hx.len,load_slice,load_int,tag_load2,tag_load,gt_iff_lt,ti49,tag_cells,tag_isC,tag_eql,tag_full,cat_at,cat_set,lth0,lth1,lth2,List.length_append,Nat.lt_add_one,hqi,hpi,wrapI (x := (t : Int) + 1) (by omega) (by omega),wrapI (x := (t : Int) - 1) (by omega) (by omega),hg13_3,hg13_9]
     refine stepB_T (fun hg13_12 => ?_) (fun hg13_12 => ?_)
     ·simp only [sS,↓sT,Nat.reduceLT,Nat.reduceEqDiff,↓sD,↓D_g,memOk,lets0,lets1,List.not_mem_nil,not_false_eq_true,true_and,and_true,sG,opV,loudV,cellsOf,strOp,evL,Nat.reduceAdd,Int.reduceBEq,Int.reduceBNe,ti25,fS49,ti38,op_cells,List.all_cons,List.all_nil,icell_int,icell_str,icell_bool,hxc,Bool.and_self,opCells,hxd,hx.len,load_slice,load_int,tag_load2,tag_load,gt_iff_lt,ti49,tag_cells,tag_isC,tag_eql,tag_full,cat_at,cat_set,lth0,lth1,lth2,List.length_append,Nat.lt_add_one,hqi,hpi,wrapI (x := (t : Int) + 1) (by omega) (by omega),wrapI (x := (t : Int) - 1) (by omega) (by omega),hg13_3,hg13_9,hg13_12]
      refine D_callP (c_punnet_tree_Less _ _ _ _) (by simp only [ev_func]) (by simp only [evL,sS,↓sT,Nat.reduceLT,Nat.reduceEqDiff]; rfl) (by first | rfl | (simp only [List.map,tag_bare]; done) | (simp only [List.map,tag_bare]; exact rfl)) (by first | rfl | simp [tag_noP]) (by first | rfl | simp [tag_noP]) rfl ?_
      simp only [sS,↓sT,Nat.reduceLT,Nat.reduceEqDiff,↓sD,↓D_g,memOk,lets0,lets1,List.not_mem_nil,not_false_eq_true,true_and,and_true,sG,opV,loudV,cellsOf,strOp,evL,Nat.reduceAdd,Int.reduceBEq,Int.reduceBNe,ti25,fS49,ti38,op_cells,List.all_cons,List.all_nil,icell_int,icell_str,icell_bool,hxc,Bool.and_self,opCells,hxd,hx.len,load_slice,load_int,tag_load2,tag_load,gt_iff_lt,ti49,tag_cells,tag_isC,tag_eql,tag_full,cat_at,cat_set,lth0,lth1,lth2,List.length_append,Nat.lt_add_one,hqi,hpi,wrapI (x := (t : Int) + 1) (by omega) (by omega),wrapI (x := (t : Int) - 1) (by omega) (by omega),hg13_3,hg13_9,hg13_12]
      refine hN13 _ ?_; try clear hN13 hD13 N13
      refine WC_condE ?_
      simp only [sS,↓sT,Nat.reduceLT,Nat.reduceEqDiff,↓stepC_bool]
      refine ⟨fun hb14 => ?_,fun hb14 => ?_⟩
      ·refine WC_seqR (fun N15 hN15 hD15 => ?_)
       simp only [sS,↓sT,Nat.reduceLT,Nat.reduceEqDiff,↓sO,↓WOps_g,sG,opV,loudV,cellsOf,strOp,evL,Nat.reduceAdd,Int.reduceBEq,Int.reduceBNe,op_cells,List.all_cons,List.all_nil,icell_int,icell_str,icell_bool,hxc,Bool.and_self,opCells,hxd,hx.len,load_slice,load_int,tag_load2,tag_load,gt_iff_lt,ti25,ti49,tag_cells,tag_isC,tag_eql,tag_full,cat_at,cat_set,lth0,lth1,lth2,List.length_append,Nat.lt_add_one,hqi,hpi,wrapI (x := (t : Int) + 1) (by omega) (by omega),wrapI (x := (t : Int) - 1) (by omega) (by omega)]
       refine hN15 _ ?_; try clear hN15 hD15 N15
       refine WC_ret ?_; (try simp only [Exit.after,Exit.out]); refine Kend_ret (by simp only [resOf,resL,resV,mkS_get,slots_get,cellsOf,ti3,sS,↓sT,Nat.reduceLT,Nat.reduceEqDiff]; rfl) (by first | rfl | (simp only [ti3]; done) | (simp only [ti3,okV,ok1,okC,okP,List.all_cons,List.all_nil,Bool.and_true]; done)) ?_
       clear hN11 hD11 N11 hN6 hD6 N6
       rw [keep_bool,hspec]
       first | (have hc := of_decide_eq_true hb4; rw [decide_eq_false (by omega)]; rfl) | skip
       first | (rw [ht,List.drop_length] at hch; rw [hlen,hch]; rfl) | skip
       all_goals (rw [hlen,hch,hst]; simp_all [dropB])
      ·refine WC_skip ?_
       refine hN11 _ ?_; try clear hN11 hD11 N11
       refine WC_regN (fun N16 hN16 => ?_)
       simp only [sS,↓sT,Nat.reduceLT,Nat.reduceEqDiff,↓sO,↓WOps_g,sG,opV,loudV,cellsOf,strOp,evL,Nat.reduceAdd,Int.reduceBEq,Int.reduceBNe,op_cells,List.all_cons,List.all_nil,icell_int,icell_str,icell_bool,hxc,Bool.and_self,opCells,hxd,hx.len,load_slice,load_int,tag_load2,tag_load,gt_iff_lt,ti25,ti49,tag_cells,tag_isC,tag_eql,tag_full,cat_at,cat_set,lth0,lth1,lth2,List.length_append,Nat.lt_add_one,hqi,hpi,wrapI (x := (t : Int) + 1) (by omega) (by omega),wrapI (x := (t : Int) - 1) (by omega) (by omega)]
       refine hN16 _ ?_; try clear hN16 N16
       refine ⟨t + 1,⟨_,_,by rw [opCells,hxd],⟨rfl,rfl,rfl,rfl,trivial⟩,ht, ?_⟩,by omega⟩
       rw [hch,hst]; (simp_all [dropB] <;> (intro _; by_cases hA : q.fst = o.idR <;> simp_all))
     ·simp only [sS,↓sT,Nat.reduceLT,Nat.reduceEqDiff,↓sD,↓D_g,memOk,lets0,lets1,List.not_mem_nil,not_false_eq_true,true_and,and_true,sG,opV,loudV,cellsOf,strOp,evL,Nat.reduceAdd,Int.reduceBEq,Int.reduceBNe,ti25,fS49,ti38,op_cells,List.all_cons,List.all_nil,icell_int,icell_str,icell_bool,hxc,Bool.and_self,opCells,hxd,hx.len,load_slice,load_int,tag_load2,tag_load,gt_iff_lt,ti49,tag_cells,tag_isC,tag_eql,tag_full,cat_at,cat_set,lth0,lth1,lth2,List.length_append,Nat.lt_add_one,hqi,hpi,wrapI (x := (t : Int) + 1) (by omega) (by omega),wrapI (x := (t : Int) - 1) (by omega) (by omega),hg13_3,hg13_9,hg13_12]
      refine hN13 _ ?_; try clear hN13 hD13 N13
      refine WC_condE ?_
      simp only [sS,↓sT,Nat.reduceLT,Nat.reduceEqDiff,↓stepC_bool]
      refine ⟨fun hb => (by cases hb),fun hb => ?_⟩
      refine WC_skip ?_
      refine hN11 _ ?_; try clear hN11 hD11 N11
      refine WC_regN (fun N17 hN17 => ?_)
      simp only [sS,↓sT,Nat.reduceLT,Nat.reduceEqDiff,↓sO,↓WOps_g,sG,opV,loudV,cellsOf,strOp,evL,Nat.reduceAdd,Int.reduceBEq,Int.reduceBNe,op_cells,List.all_cons,List.all_nil,icell_int,icell_str,icell_bool,hxc,Bool.and_self,opCells,hxd,hx.len,load_slice,load_int,tag_load2,tag_load,gt_iff_lt,ti25,ti49,tag_cells,tag_isC,tag_eql,tag_full,cat_at,cat_set,lth0,lth1,lth2,List.length_append,Nat.lt_add_one,hqi,hpi,wrapI (x := (t : Int) + 1) (by omega) (by omega),wrapI (x := (t : Int) - 1) (by omega) (by omega)]
      refine hN17 _ ?_; try clear hN17 N17
      refine ⟨t + 1,⟨_,_,by rw [opCells,hxd],⟨rfl,rfl,rfl,rfl,trivial⟩,ht, ?_⟩,by omega⟩
      rw [hch,hst]; (simp_all [dropB] <;> (intro _; by_cases hA : q.fst = o.idR <;> simp_all))
    ·simp only [sS,↓sT,Nat.reduceLT,Nat.reduceEqDiff,↓sD,↓D_g,memOk,lets0,lets1,List.not_mem_nil,not_false_eq_true,true_and,and_true,sG,opV,loudV,cellsOf,strOp,evL,Nat.reduceAdd,Int.reduceBEq,Int.reduceBNe,ti25,fS49,ti38,op_cells,List.all_cons,List.all_nil,icell_int,icell_str,icell_bool,hxc,Bool.and_self,opCells,hxd,hx.len,load_slice,load_int,tag_load2,tag_load,gt_iff_lt,ti49,tag_cells,tag_isC,tag_eql,tag_full,cat_at,cat_set,lth0,lth1,lth2,List.length_append,Nat.lt_add_one,hqi,hpi,wrapI (x := (t : Int) + 1) (by omega) (by omega),wrapI (x := (t : Int) - 1) (by omega) (by omega),hg13_3,hg13_9]
     refine hN13 _ ?_; try clear hN13 hD13 N13
     refine WC_condE ?_
     simp only [sS,↓sT,Nat.reduceLT,Nat.reduceEqDiff,↓stepC_bool]
     refine ⟨fun hb => ?_,fun hb => (by cases hb)⟩
     refine WC_seqR (fun N18 hN18 hD18 => ?_)
     simp only [sS,↓sT,Nat.reduceLT,Nat.reduceEqDiff,↓sO,↓WOps_g,sG,opV,loudV,cellsOf,strOp,evL,Nat.reduceAdd,Int.reduceBEq,Int.reduceBNe,op_cells,List.all_cons,List.all_nil,icell_int,icell_str,icell_bool,hxc,Bool.and_self,opCells,hxd,hx.len,load_slice,load_int,tag_load2,tag_load,gt_iff_lt,ti25,ti49,tag_cells,tag_isC,tag_eql,tag_full,cat_at,cat_set,lth0,lth1,lth2,List.length_append,Nat.lt_add_one,hqi,hpi,wrapI (x := (t : Int) + 1) (by omega) (by omega),wrapI (x := (t : Int) - 1) (by omega) (by omega)]
     refine hN18 _ ?_; try clear hN18 hD18 N18
     refine WC_ret ?_; (try simp only [Exit.after,Exit.out]); refine Kend_ret (by simp only [resOf,resL,resV,mkS_get,slots_get,cellsOf,ti3,sS,↓sT,Nat.reduceLT,Nat.reduceEqDiff]; rfl) (by first | rfl | (simp only [ti3]; done) | (simp only [ti3,okV,ok1,okC,okP,List.all_cons,List.all_nil,Bool.and_true]; done)) ?_
     clear hN11 hD11 N11 hN6 hD6 N6
     rw [keep_bool,hspec]
     first | (have hc := of_decide_eq_true hb4; rw [decide_eq_false (by omega)]; rfl) | skip
     first | (rw [ht,List.drop_length] at hch; rw [hlen,hch]; rfl) | skip
     all_goals (rw [hlen,hch,hst]; simp_all [dropB])
   ·simp only [sS,↓sT,Nat.reduceLT,Nat.reduceEqDiff,↓sD,↓D_g,memOk,lets0,lets1,List.not_mem_nil,not_false_eq_true,true_and,and_true,sG,opV,loudV,cellsOf,strOp,evL,Nat.reduceAdd,Int.reduceBEq,Int.reduceBNe,ti25,fS49,ti38,op_cells,List.all_cons,List.all_nil,icell_int,icell_str,icell_bool,hxc,Bool.and_self,opCells,hxd,hx.len,load_slice,load_int,tag_load2,tag_load,gt_iff_lt,ti49,tag_cells,tag_isC,tag_eql,tag_full,cat_at,cat_set,lth0,lth1,lth2,List.length_append,Nat.lt_add_one,hqi,hpi,wrapI (x := (t : Int) + 1) (by omega) (by omega),wrapI (x := (t : Int) - 1) (by omega) (by omega),hg13_3]
    refine hN13 _ ?_; try clear hN13 hD13 N13
    refine WC_condE ?_
    simp only [sS,↓sT,Nat.reduceLT,Nat.reduceEqDiff,↓stepC_bool]
    refine ⟨fun hb => ?_,fun hb => (by cases hb)⟩
    refine WC_seqR (fun N19 hN19 hD19 => ?_)
    simp only [sS,↓sT,Nat.reduceLT,Nat.reduceEqDiff,↓sO,↓WOps_g,sG,opV,loudV,cellsOf,strOp,evL,Nat.reduceAdd,Int.reduceBEq,Int.reduceBNe,op_cells,List.all_cons,List.all_nil,icell_int,icell_str,icell_bool,hxc,Bool.and_self,opCells,hxd,hx.len,load_slice,load_int,tag_load2,tag_load,gt_iff_lt,ti25,ti49,tag_cells,tag_isC,tag_eql,tag_full,cat_at,cat_set,lth0,lth1,lth2,List.length_append,Nat.lt_add_one,hqi,hpi,wrapI (x := (t : Int) + 1) (by omega) (by omega),wrapI (x := (t : Int) - 1) (by omega) (by omega)]
    refine hN19 _ ?_; try clear hN19 hD19 N19
    refine WC_ret ?_; (try simp only [Exit.after,Exit.out]); refine Kend_ret (by simp only [resOf,resL,resV,mkS_get,slots_get,cellsOf,ti3,sS,↓sT,Nat.reduceLT,Nat.reduceEqDiff]; rfl) (by first | rfl | (simp only [ti3]; done) | (simp only [ti3,okV,ok1,okC,okP,List.all_cons,List.all_nil,Bool.and_true]; done)) ?_
    clear hN11 hD11 N11 hN6 hD6 N6
    rw [keep_bool,hspec]
    first | (have hc := of_decide_eq_true hb4; rw [decide_eq_false (by omega)]; rfl) | skip
    first | (rw [ht,List.drop_length] at hch; rw [hlen,hch]; rfl) | skip
    all_goals (rw [hlen,hch,hst]; simp_all [dropB])
  ·have ht : t = l.length := by have := of_decide_eq_false hb10; omega
   clear hb10
   refine WC_exit ?_
   refine hN6 _ ?_; try clear hN6 hD6 N6
   refine WC_seqR (fun N20 hN20 hD20 => ?_)
   simp only [sS,↓sT,Nat.reduceLT,Nat.reduceEqDiff,↓sO,↓WOps_g,sG,opV,loudV,cellsOf,strOp,evL,Nat.reduceAdd,Int.reduceBEq,Int.reduceBNe,op_cells,List.all_cons,List.all_nil,icell_int,icell_str,icell_bool,hxc,Bool.and_self,opCells,hxd,hx.len,load_slice,load_int,tag_load2,tag_load,gt_iff_lt,ti25,ti49,tag_cells,tag_isC,tag_eql,tag_full,cat_at,cat_set,lth0,lth1,lth2,List.length_append,Nat.lt_add_one]
   refine hN20 _ ?_; try clear hN20 hD20 N20
   refine WC_ret ?_; (try simp only [Exit.after,Exit.out]); refine Kend_ret (by simp only [resOf,resL,resV,mkS_get,slots_get,cellsOf,ti3,sS,↓sT,Nat.reduceLT,Nat.reduceEqDiff]; rfl) (by first | rfl | (simp only [ti3]; done) | (simp only [ti3,okV,ok1,okC,okP,List.all_cons,List.all_nil,Bool.and_true]; done)) ?_
   clear hN9 hD9 N9
   rw [keep_bool,hspec]
   first | (have hc := of_decide_eq_true hb4; rw [decide_eq_false (by omega)]; rfl) | skip
   first | (rw [ht,List.drop_length] at hch; rw [hlen,hch]; rfl) | skip
   all_goals (rw [hlen,hch,hst]; simp_all [dropB])
theorem c_punnet_punnetref20_drops (o : OpS) : VC Try.prog 67 [opW o] [] (fun r _ => r = .bool (dropsB o)) := by
 refine VC_enter (nt := 51) (rs := [.tmp 2]) (ow := []) (m := 0) Try.func67 rfl (by rfl) rfl rfl (by simp) (by simp [ownOf,op_toks]) rfl (fun n => ?_)
 simp only [zipT,Nat.zero_add]
 have hx := dropsW_TS o.drops
 obtain ⟨l,hl⟩ : ∃ l,o.drops.l = l := ⟨_,rfl⟩
 obtain ⟨x,hxd⟩ : ∃ x,dropsW o.drops = x := ⟨_,rfl⟩
 have hspec : dropsB o = (decide ((l.length : Int) ≤ 60) && chainB (o.idR,o.idN) none l) := by rw [dropsB,OpS.dropsL,hl]
 have hxc : x.isCell = true := hxd ▸ dropsW_isC o.drops
 rw [hl,hxd] at hx
 refine WC_seqR (fun N1 hN1 hD1 => ?_)
 simp only [sS,↓sT,Nat.reduceLT,Nat.reduceEqDiff,↓sO,↓WOps_g,sG,opV,loudV,cellsOf,strOp,evL,Nat.reduceAdd,Int.reduceBEq,Int.reduceBNe,op_cells,List.all_cons,List.all_nil,icell_int,icell_str,icell_bool,hxc,Bool.and_self,opCells,hxd,hx.len,load_slice,load_int,tag_load2,tag_load,gt_iff_lt,ti25,ti49,tag_cells,tag_isC,tag_eql,tag_full,cat_at,cat_set,lth0,lth1,lth2,List.length_append,Nat.lt_add_one]
 refine hN1 _ ?_; try clear hN1 hD1 N1
 refine WC_seqN (fun N2 hN2 hD2 => ?_)
 refine WC_seqR (fun N3 hN3 hD3 => ?_)
 simp only [sS,↓sT,Nat.reduceLT,Nat.reduceEqDiff,↓sO,↓WOps_g,sG,opV,loudV,cellsOf,strOp,evL,Nat.reduceAdd,Int.reduceBEq,Int.reduceBNe,fS49,ti38,op_cells,List.all_cons,List.all_nil,icell_int,icell_str,icell_bool,hxc,Bool.and_self,opCells,hxd,hx.len,load_slice,load_int,tag_load2,tag_load,gt_iff_lt,ti25,ti49,tag_cells,tag_isC,tag_eql,tag_full,cat_at,cat_set,lth0,lth1,lth2,List.length_append,Nat.lt_add_one]
 refine hN3 _ ?_; try clear hN3 hD3 N3
 refine WC_condE ?_
 simp only [sS,↓sT,Nat.reduceLT,Nat.reduceEqDiff,↓stepC_bool]
 refine ⟨fun hb4 => ?_,fun hb4 => ?_⟩
 ·refine WC_seqR (fun N5 hN5 hD5 => ?_)
  simp only [sS,↓sT,Nat.reduceLT,Nat.reduceEqDiff,↓sO,↓WOps_g,sG,opV,loudV,cellsOf,strOp,evL,Nat.reduceAdd,Int.reduceBEq,Int.reduceBNe,op_cells,List.all_cons,List.all_nil,icell_int,icell_str,icell_bool,hxc,Bool.and_self,opCells,hxd,hx.len,load_slice,load_int,tag_load2,tag_load,gt_iff_lt,ti25,ti49,tag_cells,tag_isC,tag_eql,tag_full,cat_at,cat_set,lth0,lth1,lth2,List.length_append,Nat.lt_add_one]
  refine hN5 _ ?_; try clear hN5 hD5 N5
  refine WC_ret ?_; (try simp only [Exit.after,Exit.out]); refine Kend_ret (by simp only [resOf,resL,resV,mkS_get,slots_get,cellsOf,ti3,sS,↓sT,Nat.reduceLT,Nat.reduceEqDiff]; rfl) (by first | rfl | (simp only [ti3]; done) | (simp only [ti3,okV,ok1,okC,okP,List.all_cons,List.all_nil,Bool.and_true]; done)) ?_
  clear hN2 hD2 N2
  rw [keep_bool,hspec]
  first | (have hc := of_decide_eq_true hb4; rw [decide_eq_false (by omega)]; rfl) | skip
  first | (rw [ht,List.drop_length] at hch; rw [hlen,hch]; rfl) | skip
  all_goals (rw [hlen,hch,hst]; simp_all [dropB])
 ·refine WC_skip ?_
  refine hN2 _ ?_; try clear hN2 hD2 N2
  refine WC_seqN (fun N6 hN6 hD6 => ?_)
  refine WC_seqR (fun N7 hN7 hD7 => ?_)
  simp only [sS,↓sT,Nat.reduceLT,Nat.reduceEqDiff,↓sO,↓WOps_g,sG,opV,loudV,cellsOf,strOp,evL,Nat.reduceAdd,Int.reduceBEq,Int.reduceBNe,op_cells,List.all_cons,List.all_nil,icell_int,icell_str,icell_bool,hxc,Bool.and_self,opCells,hxd,hx.len,load_slice,load_int,tag_load2,tag_load,gt_iff_lt,ti25,ti49,tag_cells,tag_isC,tag_eql,tag_full,cat_at,cat_set,lth0,lth1,lth2,List.length_append,Nat.lt_add_one]
  refine hN7 _ ?_; try clear hN7 hD7 N7
  refine WC_block ?_
  have hlen : decide ((l.length : Int) ≤ 60) = true := decide_eq_true (by have := of_decide_eq_false hb4; omega)
  have hl60 : l.length ≤ 60 := by have := of_decide_eq_true hlen; omega
  refine WC_loopG (σ := Nat) (fun t s => ∃ ps,s = ⟨mkS 51 ps, [opCells o], [],n⟩ ∧ Has ps [(1, .ptr 0 0),(3, .int .i64 t)] ∧ t ≤ l.length ∧ chainB (o.idR,o.idN) none l = chainB (o.idR,o.idN) (prevAt l t) (l.drop t)) (fun t => l.length - t) 0 ?_ (fun t s hI => ?_)
  · exact ⟨_,by rw [opCells,hxd],⟨rfl,rfl,trivial⟩,by omega,rfl⟩
  obtain ⟨ps,rfl,hps,htl,hch⟩ := hI
  refine WC_has hps ?_; clear hps ps
  refine WC_seqN (fun N8 hN8 hD8 => ?_)
  refine WC_seqR (fun N9 hN9 hD9 => ?_)
  simp only [sS,↓sT,Nat.reduceLT,Nat.reduceEqDiff,↓sO,↓WOps_g,sG,opV,loudV,cellsOf,strOp,evL,Nat.reduceAdd,Int.reduceBEq,Int.reduceBNe,fS49,ti38,op_cells,List.all_cons,List.all_nil,icell_int,icell_str,icell_bool,hxc,Bool.and_self,opCells,hxd,hx.len,load_slice,load_int,tag_load2,tag_load,gt_iff_lt,ti25,ti49,tag_cells,tag_isC,tag_eql,tag_full,cat_at,cat_set,lth0,lth1,lth2,List.length_append,Nat.lt_add_one]
  refine hN9 _ ?_; try clear hN9 hD9 N9
  refine WC_condE ?_
  simp only [sS,↓sT,Nat.reduceLT,Nat.reduceEqDiff,↓stepC_bool]
  refine ⟨fun hb10 => ?_,fun hb10 => ?_⟩
  ·have ht : t < l.length := by have := of_decide_eq_true hb10; omega
   clear hb10
   obtain ⟨q,hq⟩ : ∃ q,l[t]? = some q := ⟨_,List.getElem?_eq_getElem ht⟩
   obtain ⟨p,hp⟩ : ∃ p,0 < t → l[t - 1]? = some p := ⟨l.getD (t - 1) q,fun h => by simp [List.getD,List.getElem?_eq_getElem (show t - 1 < l.length by omega)]⟩
   have hst := chain_step (id := (o.idR,o.idN)) hq
   have hqi := hx.ia hq
   have hpi : decide (0 < (t : Int)) = true → indexAddrV Try.prog 38 x (.int .i64 ((t : Int) - 1)) = some (.rptr [.int .i64 p.1, .int .i64 p.2]) := fun h => by
     have h := of_decide_eq_true h
     have := hx.ia (hp (by omega))
     rwa [show ((t - 1 : Nat) : Int) = (t : Int) - 1 from by omega] at this
   have hpv : prevAt l t = if decide (0 < (t : Int)) = true then some p else none := by
     unfold prevAt
     by_cases h : t = 0
     · rw [if_pos h,if_neg (by simp; omega)]
     · rw [if_neg h,if_pos (by simp; omega),hp (by omega)]
   rw [hpv] at hst hch
   clear hpv
   refine WC_skip ?_
   refine hN8 _ ?_; try clear hN8 hD8 N8
   refine WC_seqN (fun N11 hN11 hD11 => ?_)
   refine WC_block ?_
   refine WC_seqD mixed [] [0,0,0,0,0,0,0,0,0,0,0,0,0,0,0,0,0,0,0,0,0,0,0,0,0,0,0,0,0,0,0,0,0,0,0,0] (by decide +kernel) (fun N12 hN12 hD12 => ?_)
   simp only [sS,↓sT,Nat.reduceLT,Nat.reduceEqDiff,↓sD,↓D_g,memOk,lets0,lets1,List.not_mem_nil,not_false_eq_true,true_and,and_true,sG,opV,loudV,cellsOf,strOp,evL,Nat.reduceAdd,Int.reduceBEq,Int.reduceBNe,fS49,ti38,ti25,op_cells,List.all_cons,List.all_nil,icell_int,icell_str,icell_bool,hxc,Bool.and_self,opCells,hxd,hx.len,load_slice,load_int,tag_load2,tag_load,gt_iff_lt,ti49,tag_cells,tag_isC,tag_eql,tag_full,cat_at,cat_set,lth0,lth1,lth2,List.length_append,Nat.lt_add_one,hqi,hpi,wrapI (x := (t : Int) + 1) (by omega) (by omega),wrapI (x := (t : Int) - 1) (by omega) (by omega)]
   refine D_callP (c_punnet_punnetref17_Tag _ _) (by simp only [ev_func]) (by simp only [evL,sS,↓sT,Nat.reduceLT,Nat.reduceEqDiff]; rfl) (by first | rfl | (simp only [List.map,tag_bare]; done) | (simp only [List.map,tag_bare]; exact rfl)) (by first | rfl | simp [tag_noP]) (by first | rfl | simp [tag_noP]) rfl ?_
   simp only [sS,↓sT,Nat.reduceLT,Nat.reduceEqDiff,↓sD,↓D_g,memOk,lets0,lets1,List.not_mem_nil,not_false_eq_true,true_and,and_true,sG,opV,loudV,cellsOf,strOp,evL,Nat.reduceAdd,Int.reduceBEq,Int.reduceBNe,fS49,ti38,ti25,op_cells,List.all_cons,List.all_nil,icell_int,icell_str,icell_bool,hxc,Bool.and_self,opCells,hxd,hx.len,load_slice,load_int,tag_load2,tag_load,gt_iff_lt,ti49,tag_cells,tag_isC,tag_eql,tag_full,cat_at,cat_set,lth0,lth1,lth2,List.length_append,Nat.lt_add_one,hqi,hpi,wrapI (x := (t : Int) + 1) (by omega) (by omega),wrapI (x := (t : Int) - 1) (by omega) (by omega)]
   refine stepB_F (fun hg12_7 => ?_) (fun hg12_7 => ?_)
   ·simp only [sS,↓sT,Nat.reduceLT,Nat.reduceEqDiff,↓sD,↓D_g,memOk,lets0,lets1,List.not_mem_nil,not_false_eq_true,true_and,and_true,sG,opV,loudV,cellsOf,strOp,evL,Nat.reduceAdd,Int.reduceBEq,Int.reduceBNe,fS49,ti38,ti25,op_cells,List.all_cons,List.all_nil,icell_int,icell_str,icell_bool,hxc,Bool.and_self,opCells,hxd,hx.len,load_slice,load_int,tag_load2,tag_load,gt_iff_lt,ti49,tag_cells,tag_isC,tag_eql,tag_full,cat_at,cat_set,lth0,lth1,lth2,List.length_append,Nat.lt_add_one,hqi,hpi,wrapI (x := (t : Int) + 1) (by omega) (by omega),wrapI (x := (t : Int) - 1) (by omega) (by omega),hg12_7]
    refine stepB_F (fun hg12_17 => ?_) (fun hg12_17 => ?_)
    ·simp only [sS,↓sT,Nat.reduceLT,Nat.reduceEqDiff,↓sD,↓D_g,memOk,lets0,lets1,List.not_mem_nil,not_false_eq_true,true_and,and_true,sG,opV,loudV,cellsOf,strOp,evL,Nat.reduceAdd,Int.reduceBEq,Int.reduceBNe,fS49,ti38,ti25,op_cells,List.all_cons,List.all_nil,icell_int,icell_str,icell_bool,hxc,Bool.and_self,opCells,hxd,hx.len,load_slice,load_int,tag_load2,tag_load,gt_iff_lt,ti49,tag_cells,tag_isC,tag_eql,tag_full,cat_at,cat_set,lth0,lth1,lth2,List.length_append,Nat.lt_add_one,hqi,hpi,wrapI (x := (t : Int) + 1) (by omega) (by omega),wrapI (x := (t : Int) - 1) (by omega) (by omega),hg12_7,hg12_17]
     refine stepB_T (fun hg12_20 => ?_) (fun hg12_20 => ?_)
     ·simp only [sS,↓sT,Nat.reduceLT,Nat.reduceEqDiff,↓sD,↓D_g,memOk,lets0,lets1,List.not_mem_nil,not_false_eq_true,true_and,and_true,sG,opV,loudV,cellsOf,strOp,evL,Nat.reduceAdd,Int.reduceBEq,Int.reduceBNe,fS49,ti38,ti25,op_cells,List.all_cons,List.all_nil,icell_int,icell_str,icell_bool,hxc,Bool.and_self,opCells,hxd,hx.len,load_slice,load_int,tag_load2,tag_load,gt_iff_lt,ti49,tag_cells,tag_isC,tag_eql,tag_full,cat_at,cat_set,lth0,lth1,lth2,List.length_append,Nat.lt_add_one,hqi,hpi,wrapI (x := (t : Int) + 1) (by omega) (by omega),wrapI (x := (t : Int) - 1) (by omega) (by omega),hg12_7,hg12_17,hg12_20]
      refine D_callP (c_punnet_punnetref17_Less _ _ _ _) (by simp only [ev_func]) (by simp only [evL,sS,↓sT,Nat.reduceLT,Nat.reduceEqDiff]; rfl) (by first | rfl | (simp only [List.map,tag_bare]; done) | (simp only [List.map,tag_bare]; exact rfl)) (by first | rfl | simp [tag_noP]) (by first | rfl | simp [tag_noP]) rfl ?_
      simp only [sS,↓sT,Nat.reduceLT,Nat.reduceEqDiff,↓sD,↓D_g,memOk,lets0,lets1,List.not_mem_nil,not_false_eq_true,true_and,and_true,sG,opV,loudV,cellsOf,strOp,evL,Nat.reduceAdd,Int.reduceBEq,Int.reduceBNe,fS49,ti38,ti25,op_cells,List.all_cons,List.all_nil,icell_int,icell_str,icell_bool,hxc,Bool.and_self,opCells,hxd,hx.len,load_slice,load_int,tag_load2,tag_load,gt_iff_lt,ti49,tag_cells,tag_isC,tag_eql,tag_full,cat_at,cat_set,lth0,lth1,lth2,List.length_append,Nat.lt_add_one,hqi,hpi,wrapI (x := (t : Int) + 1) (by omega) (by omega),wrapI (x := (t : Int) - 1) (by omega) (by omega),hg12_7,hg12_17,hg12_20]
      refine hN12 _ ?_; try clear hN12 hD12 N12
      refine WC_condE ?_
      simp only [sS,↓sT,Nat.reduceLT,Nat.reduceEqDiff,↓stepC_bool]
      refine ⟨fun hb13 => ?_,fun hb13 => ?_⟩
      ·refine WC_seqR (fun N14 hN14 hD14 => ?_)
       simp only [sS,↓sT,Nat.reduceLT,Nat.reduceEqDiff,↓sO,↓WOps_g,sG,opV,loudV,cellsOf,strOp,evL,Nat.reduceAdd,Int.reduceBEq,Int.reduceBNe,op_cells,List.all_cons,List.all_nil,icell_int,icell_str,icell_bool,hxc,Bool.and_self,opCells,hxd,hx.len,load_slice,load_int,tag_load2,tag_load,gt_iff_lt,ti25,ti49,tag_cells,tag_isC,tag_eql,tag_full,cat_at,cat_set,lth0,lth1,lth2,List.length_append,Nat.lt_add_one,hqi,hpi,wrapI (x := (t : Int) + 1) (by omega) (by omega),wrapI (x := (t : Int) - 1) (by omega) (by omega)]
       refine hN14 _ ?_; try clear hN14 hD14 N14
       refine WC_ret ?_; (try simp only [Exit.after,Exit.out]); refine Kend_ret (by simp only [resOf,resL,resV,mkS_get,slots_get,cellsOf,ti3,sS,↓sT,Nat.reduceLT,Nat.reduceEqDiff]; rfl) (by first | rfl | (simp only [ti3]; done) | (simp only [ti3,okV,ok1,okC,okP,List.all_cons,List.all_nil,Bool.and_true]; done)) ?_
       clear hN11 hD11 N11 hN6 hD6 N6
       rw [keep_bool,hspec]
       first | (have hc := of_decide_eq_true hb4; rw [decide_eq_false (by omega)]; rfl) | skip
       first | (rw [ht,List.drop_length] at hch; rw [hlen,hch]; rfl) | skip
       all_goals (rw [hlen,hch,hst]; simp_all [dropB])
      ·refine WC_skip ?_
       refine hN11 _ ?_; try clear hN11 hD11 N11
       refine WC_regN (fun N15 hN15 => ?_)
       simp only [sS,↓sT,Nat.reduceLT,Nat.reduceEqDiff,↓sO,↓WOps_g,sG,opV,loudV,cellsOf,strOp,evL,Nat.reduceAdd,Int.reduceBEq,Int.reduceBNe,op_cells,List.all_cons,List.all_nil,icell_int,icell_str,icell_bool,hxc,Bool.and_self,opCells,hxd,hx.len,load_slice,load_int,tag_load2,tag_load,gt_iff_lt,ti25,ti49,tag_cells,tag_isC,tag_eql,tag_full,cat_at,cat_set,lth0,lth1,lth2,List.length_append,Nat.lt_add_one,hqi,hpi,wrapI (x := (t : Int) + 1) (by omega) (by omega),wrapI (x := (t : Int) - 1) (by omega) (by omega)]
       refine hN15 _ ?_; try clear hN15 N15
       refine ⟨t + 1,⟨_,by rw [opCells,hxd],⟨rfl,rfl,trivial⟩,ht, ?_⟩,by omega⟩
       rw [hch,hst]; (simp_all [dropB] <;> (intro _; by_cases hA : q.fst = o.idR <;> simp_all))
     ·simp only [sS,↓sT,Nat.reduceLT,Nat.reduceEqDiff,↓sD,↓D_g,memOk,lets0,lets1,List.not_mem_nil,not_false_eq_true,true_and,and_true,sG,opV,loudV,cellsOf,strOp,evL,Nat.reduceAdd,Int.reduceBEq,Int.reduceBNe,fS49,ti38,ti25,op_cells,List.all_cons,List.all_nil,icell_int,icell_str,icell_bool,hxc,Bool.and_self,opCells,hxd,hx.len,load_slice,load_int,tag_load2,tag_load,gt_iff_lt,ti49,tag_cells,tag_isC,tag_eql,tag_full,cat_at,cat_set,lth0,lth1,lth2,List.length_append,Nat.lt_add_one,hqi,hpi,wrapI (x := (t : Int) + 1) (by omega) (by omega),wrapI (x := (t : Int) - 1) (by omega) (by omega),hg12_7,hg12_17,hg12_20]
      refine hN12 _ ?_; try clear hN12 hD12 N12
      refine WC_condE ?_
      simp only [sS,↓sT,Nat.reduceLT,Nat.reduceEqDiff,↓stepC_bool]
      refine ⟨fun hb => (by cases hb),fun hb => ?_⟩
      refine WC_skip ?_
      refine hN11 _ ?_; try clear hN11 hD11 N11
      refine WC_regN (fun N16 hN16 => ?_)
      simp only [sS,↓sT,Nat.reduceLT,Nat.reduceEqDiff,↓sO,↓WOps_g,sG,opV,loudV,cellsOf,strOp,evL,Nat.reduceAdd,Int.reduceBEq,Int.reduceBNe,op_cells,List.all_cons,List.all_nil,icell_int,icell_str,icell_bool,hxc,Bool.and_self,opCells,hxd,hx.len,load_slice,load_int,tag_load2,tag_load,gt_iff_lt,ti25,ti49,tag_cells,tag_isC,tag_eql,tag_full,cat_at,cat_set,lth0,lth1,lth2,List.length_append,Nat.lt_add_one,hqi,hpi,wrapI (x := (t : Int) + 1) (by omega) (by omega),wrapI (x := (t : Int) - 1) (by omega) (by omega)]
      refine hN16 _ ?_; try clear hN16 N16
      refine ⟨t + 1,⟨_,by rw [opCells,hxd],⟨rfl,rfl,trivial⟩,ht, ?_⟩,by omega⟩
      rw [hch,hst]; (simp_all [dropB] <;> (intro _; by_cases hA : q.fst = o.idR <;> simp_all))
    ·simp only [sS,↓sT,Nat.reduceLT,Nat.reduceEqDiff,↓sD,↓D_g,memOk,lets0,lets1,List.not_mem_nil,not_false_eq_true,true_and,and_true,sG,opV,loudV,cellsOf,strOp,evL,Nat.reduceAdd,Int.reduceBEq,Int.reduceBNe,fS49,ti38,ti25,op_cells,List.all_cons,List.all_nil,icell_int,icell_str,icell_bool,hxc,Bool.and_self,opCells,hxd,hx.len,load_slice,load_int,tag_load2,tag_load,gt_iff_lt,ti49,tag_cells,tag_isC,tag_eql,tag_full,cat_at,cat_set,lth0,lth1,lth2,List.length_append,Nat.lt_add_one,hqi,hpi,wrapI (x := (t : Int) + 1) (by omega) (by omega),wrapI (x := (t : Int) - 1) (by omega) (by omega),hg12_7,hg12_17]
     refine hN12 _ ?_; try clear hN12 hD12 N12
     refine WC_condE ?_
     simp only [sS,↓sT,Nat.reduceLT,Nat.reduceEqDiff,↓stepC_bool]
     refine ⟨fun hb => ?_,fun hb => (by cases hb)⟩
     refine WC_seqR (fun N17 hN17 hD17 => ?_)
     simp only [sS,↓sT,Nat.reduceLT,Nat.reduceEqDiff,↓sO,↓WOps_g,sG,opV,loudV,cellsOf,strOp,evL,Nat.reduceAdd,Int.reduceBEq,Int.reduceBNe,op_cells,List.all_cons,List.all_nil,icell_int,icell_str,icell_bool,hxc,Bool.and_self,opCells,hxd,hx.len,load_slice,load_int,tag_load2,tag_load,gt_iff_lt,ti25,ti49,tag_cells,tag_isC,tag_eql,tag_full,cat_at,cat_set,lth0,lth1,lth2,List.length_append,Nat.lt_add_one,hqi,hpi,wrapI (x := (t : Int) + 1) (by omega) (by omega),wrapI (x := (t : Int) - 1) (by omega) (by omega)]
     refine hN17 _ ?_; try clear hN17 hD17 N17
     refine WC_ret ?_; (try simp only [Exit.after,Exit.out]); refine Kend_ret (by simp only [resOf,resL,resV,mkS_get,slots_get,cellsOf,ti3,sS,↓sT,Nat.reduceLT,Nat.reduceEqDiff]; rfl) (by first | rfl | (simp only [ti3]; done) | (simp only [ti3,okV,ok1,okC,okP,List.all_cons,List.all_nil,Bool.and_true]; done)) ?_
     clear hN11 hD11 N11 hN6 hD6 N6
     rw [keep_bool,hspec]
     first | (have hc := of_decide_eq_true hb4; rw [decide_eq_false (by omega)]; rfl) | skip
     first | (rw [ht,List.drop_length] at hch; rw [hlen,hch]; rfl) | skip
     all_goals (rw [hlen,hch,hst]; simp_all [dropB])
   ·simp only [sS,↓sT,Nat.reduceLT,Nat.reduceEqDiff,↓sD,↓D_g,memOk,lets0,lets1,List.not_mem_nil,not_false_eq_true,true_and,and_true,sG,opV,loudV,cellsOf,strOp,evL,Nat.reduceAdd,Int.reduceBEq,Int.reduceBNe,fS49,ti38,ti25,op_cells,List.all_cons,List.all_nil,icell_int,icell_str,icell_bool,hxc,Bool.and_self,opCells,hxd,hx.len,load_slice,load_int,tag_load2,tag_load,gt_iff_lt,ti49,tag_cells,tag_isC,tag_eql,tag_full,cat_at,cat_set,lth0,lth1,lth2,List.length_append,Nat.lt_add_one,hqi,hpi,wrapI (x := (t : Int) + 1) (by omega) (by omega),wrapI (x := (t : Int) - 1) (by omega) (by omega),hg12_7]
    refine hN12 _ ?_; try clear hN12 hD12 N12
    refine WC_condE ?_
    simp only [sS,↓sT,Nat.reduceLT,Nat.reduceEqDiff,↓stepC_bool]
    refine ⟨fun hb => ?_,fun hb => (by cases hb)⟩
    refine WC_seqR (fun N18 hN18 hD18 => ?_)
    simp only [sS,↓sT,Nat.reduceLT,Nat.reduceEqDiff,↓sO,↓WOps_g,sG,opV,loudV,cellsOf,strOp,evL,Nat.reduceAdd,Int.reduceBEq,Int.reduceBNe,op_cells,List.all_cons,List.all_nil,icell_int,icell_str,icell_bool,hxc,Bool.and_self,opCells,hxd,hx.len,load_slice,load_int,tag_load2,tag_load,gt_iff_lt,ti25,ti49,tag_cells,tag_isC,tag_eql,tag_full,cat_at,cat_set,lth0,lth1,lth2,List.length_append,Nat.lt_add_one,hqi,hpi,wrapI (x := (t : Int) + 1) (by omega) (by omega),wrapI (x := (t : Int) - 1) (by omega) (by omega)]
    refine hN18 _ ?_; try clear hN18 hD18 N18
    refine WC_ret ?_; (try simp only [Exit.after,Exit.out]); refine Kend_ret (by simp only [resOf,resL,resV,mkS_get,slots_get,cellsOf,ti3,sS,↓sT,Nat.reduceLT,Nat.reduceEqDiff]; rfl) (by first | rfl | (simp only [ti3]; done) | (simp only [ti3,okV,ok1,okC,okP,List.all_cons,List.all_nil,Bool.and_true]; done)) ?_
    clear hN11 hD11 N11 hN6 hD6 N6
    rw [keep_bool,hspec]
    first | (have hc := of_decide_eq_true hb4; rw [decide_eq_false (by omega)]; rfl) | skip
    first | (rw [ht,List.drop_length] at hch; rw [hlen,hch]; rfl) | skip
    all_goals (rw [hlen,hch,hst]; simp_all [dropB])
  ·have ht : t = l.length := by have := of_decide_eq_false hb10; omega
   clear hb10
   refine WC_exit ?_
   refine hN6 _ ?_; try clear hN6 hD6 N6
   refine WC_seqR (fun N19 hN19 hD19 => ?_)
   simp only [sS,↓sT,Nat.reduceLT,Nat.reduceEqDiff,↓sO,↓WOps_g,sG,opV,loudV,cellsOf,strOp,evL,Nat.reduceAdd,Int.reduceBEq,Int.reduceBNe,op_cells,List.all_cons,List.all_nil,icell_int,icell_str,icell_bool,hxc,Bool.and_self,opCells,hxd,hx.len,load_slice,load_int,tag_load2,tag_load,gt_iff_lt,ti25,ti49,tag_cells,tag_isC,tag_eql,tag_full,cat_at,cat_set,lth0,lth1,lth2,List.length_append,Nat.lt_add_one]
   refine hN19 _ ?_; try clear hN19 hD19 N19
   refine WC_ret ?_; (try simp only [Exit.after,Exit.out]); refine Kend_ret (by simp only [resOf,resL,resV,mkS_get,slots_get,cellsOf,ti3,sS,↓sT,Nat.reduceLT,Nat.reduceEqDiff]; rfl) (by first | rfl | (simp only [ti3]; done) | (simp only [ti3,okV,ok1,okC,okP,List.all_cons,List.all_nil,Bool.and_true]; done)) ?_
   clear hN8 hD8 N8
   rw [keep_bool,hspec]
   first | (have hc := of_decide_eq_true hb4; rw [decide_eq_false (by omega)]; rfl) | skip
   first | (rw [ht,List.drop_length] at hch; rw [hlen,hch]; rfl) | skip
   all_goals (rw [hlen,hch,hst]; simp_all [dropB])
end Go.PV
/- Whether two ops are the same. -/
namespace Go.PV
open Go.Proofs
set_option linter.unusedVariables false
set_option linter.unusedSimpArgs false
set_option maxRecDepth 10000
set_option maxHeartbeats 1000000

theorem take_eq {l m : List (Int × Int)} {t : Nat} {p q : Int × Int} (hp : l[t]? = some p) (hq : m[t]? = some q) (h : l.take t = m.take t) (hpq : p = q) : l.take (t + 1) = m.take (t + 1) := by
  rw [List.take_add_one,List.take_add_one,hp,hq,h,hpq]
theorem ne_of_at {l m : List (Int × Int)} {t : Nat} {p q : Int × Int} (hp : l[t]? = some p) (hq : m[t]? = some q) (h : ((p.1 == q.1) && (p.2 == q.2)) = false) : (l == m) = false := by
  rw [beq_eq_false_iff_ne]
  intro he
  subst he
  rw [hp] at hq
  obtain rfl := Option.some.inj hq
  simp at h
theorem c_slices_Equal_punnet_api_Tag_punnet_api_Tag_ (l m : List (Int × Int)) (x y : V) (hx : TS l x) (hy : TS m y) (hL : l.length ≤ 4611686018427387904) : VC Try.prog 61 [x, y] [] (fun r _ => r = .bool (l == m)) := by
 refine VC_enter (nt := 26) (rs := [.tmp 4]) (ow := []) (m := 0) Try.func61 rfl (by rfl) rfl rfl (by simp) (by simp [ownOf,hx.toks,hy.toks]) rfl (fun n => ?_)
 simp only [zipT,Nat.zero_add]
 refine WC_seqR (fun N1 hN1 hD1 => ?_)
 simp only [sS,↓sT,Nat.reduceLT,Nat.reduceEqDiff,↓sO,↓WOps_g,sG,opV,loudV,cellsOf,strOp,evL,Nat.reduceAdd,Int.reduceBEq,Int.reduceBNe,hx.len,hy.len,tag_load,tag_neq,ti25]
 refine hN1 _ ?_; try clear hN1 hD1 N1
 refine WC_seqN (fun N2 hN2 hD2 => ?_)
 refine WC_seqR (fun N3 hN3 hD3 => ?_)
 simp only [sS,↓sT,Nat.reduceLT,Nat.reduceEqDiff,↓sO,↓WOps_g,sG,opV,loudV,cellsOf,strOp,evL,Nat.reduceAdd,Int.reduceBEq,Int.reduceBNe,ti38,hx.len,hy.len,tag_load,tag_neq,ti25]
 refine hN3 _ ?_; try clear hN3 hD3 N3
 refine WC_condE ?_
 simp only [sS,↓sT,Nat.reduceLT,Nat.reduceEqDiff,↓stepC_bool]
 refine ⟨fun hb4 => ?_,fun hb4 => ?_⟩
 ·refine WC_seqR (fun N5 hN5 hD5 => ?_)
  simp only [sS,↓sT,Nat.reduceLT,Nat.reduceEqDiff,↓sO,↓WOps_g,sG,opV,loudV,cellsOf,strOp,evL,Nat.reduceAdd,Int.reduceBEq,Int.reduceBNe,hx.len,hy.len,tag_load,tag_neq,ti25]
  refine hN5 _ ?_; try clear hN5 hD5 N5
  refine WC_ret ?_; (try simp only [Exit.after,Exit.out]); refine Kend_ret (by simp only [resOf,resL,resV,mkS_get,slots_get,cellsOf,ti3,sS,↓sT,Nat.reduceLT,Nat.reduceEqDiff]; rfl) (by first | rfl | (simp only [ti3]; done) | (simp only [ti3,okV,ok1,okC,okP,List.all_cons,List.all_nil,Bool.and_true]; done)) ?_
  clear hN2 hD2 N2
  first
  | (rw [keep_bool,ne_of_at hp hq (by simpa only [Bool.not_eq_true',Bool.not_eq_eq_eq_not,Bool.not_true] using hb14)]; done)
  | (rw [keep_bool,beq_eq_false_iff_ne.2 (fun h => by subst h; simp at hb4)]; done)
  | (rw [ht,List.take_length,hlm,List.take_length] at htk; rw [keep_bool,beq_iff_eq.2 htk]; done)
 ·refine WC_skip ?_
  refine hN2 _ ?_; try clear hN2 hD2 N2
  refine WC_seqN (fun N6 hN6 hD6 => ?_)
  refine WC_seqR (fun N7 hN7 hD7 => ?_)
  simp only [sS,↓sT,Nat.reduceLT,Nat.reduceEqDiff,↓sO,↓WOps_g,sG,opV,loudV,cellsOf,strOp,evL,Nat.reduceAdd,Int.reduceBEq,Int.reduceBNe,ti38,hx.len,hy.len,tag_load,tag_neq,ti25]
  refine hN7 _ ?_; try clear hN7 hD7 N7
  refine WC_block ?_
  have hlm : l.length = m.length := by simp at hb4; omega
  refine WC_loopG (σ := Nat) (fun t s => ∃ ps,s = ⟨mkS 26 ps, [], [],n⟩ ∧ Has ps [(0,x),(1,y),(12, .int .i64 l.length),(13, .int .i64 t)] ∧ t ≤ l.length ∧ l.take t = m.take t) (fun t => l.length - t) 0 ?_ (fun t s hI => ?_)
  · exact ⟨_,rfl,⟨rfl,rfl,rfl,rfl,trivial⟩,by omega,by simp⟩
  obtain ⟨ps,rfl,hps,hI,htk⟩ := hI
  refine WC_has hps ?_; clear hps ps
  refine WC_seqR (fun N8 hN8 hD8 => ?_)
  simp only [sS,↓sT,Nat.reduceLT,Nat.reduceEqDiff,↓sO,↓WOps_g,sG,opV,loudV,cellsOf,strOp,evL,Nat.reduceAdd,Int.reduceBEq,Int.reduceBNe,hx.len,hy.len,tag_load,tag_neq,ti25]
  refine hN8 _ ?_; try clear hN8 hD8 N8
  refine WC_seqN (fun N9 hN9 hD9 => ?_)
  refine WC_condE ?_
  simp only [sS,↓sT,Nat.reduceLT,Nat.reduceEqDiff,↓stepC_bool]
  refine ⟨fun hb10 => ?_,fun hb10 => ?_⟩
  ·have ht : t < l.length := by have := of_decide_eq_true hb10; omega
   clear hb10
   obtain ⟨p,hp⟩ : ∃ p,l[t]? = some p := ⟨_,List.getElem?_eq_getElem ht⟩
   obtain ⟨q,hq⟩ : ∃ q,m[t]? = some q := ⟨_,List.getElem?_eq_getElem (by omega)⟩
   refine WC_skip ?_
   refine hN9 _ ?_; try clear hN9 hD9 N9
   refine WC_seqN (fun N11 hN11 hD11 => ?_)
   refine WC_block ?_
   refine WC_seqR (fun N12 hN12 hD12 => ?_)
   simp only [sS,↓sT,Nat.reduceLT,Nat.reduceEqDiff,↓sO,↓WOps_g,sG,opV,loudV,cellsOf,strOp,evL,Nat.reduceAdd,Int.reduceBEq,Int.reduceBNe,hx.len,hy.len,tag_load,tag_neq,ti25,hx.ia hp,hy.ia hq,wrapI (x := (t : Int) + 1) (by omega) (by omega)]
   refine hN12 _ ?_; try clear hN12 hD12 N12
   refine WC_seqD mixed [] [0,0,0,0,0,0,0,0,0] (by decide +kernel) (fun N13 hN13 hD13 => ?_)
   simp only [sS,↓sT,Nat.reduceLT,Nat.reduceEqDiff,↓sD,↓D_g,memOk,lets0,lets1,List.not_mem_nil,not_false_eq_true,true_and,and_true,sG,opV,loudV,cellsOf,strOp,evL,Nat.reduceAdd,Int.reduceBEq,Int.reduceBNe,ti38,ti25,hx.len,hy.len,tag_load,tag_neq,hx.ia hp,hy.ia hq,wrapI (x := (t : Int) + 1) (by omega) (by omega)]
   refine hN13 _ ?_; try clear hN13 hD13 N13
   refine WC_condE ?_
   simp only [sS,↓sT,Nat.reduceLT,Nat.reduceEqDiff,↓stepC_bool]
   refine ⟨fun hb14 => ?_,fun hb14 => ?_⟩
   ·refine WC_seqR (fun N15 hN15 hD15 => ?_)
    simp only [sS,↓sT,Nat.reduceLT,Nat.reduceEqDiff,↓sO,↓WOps_g,sG,opV,loudV,cellsOf,strOp,evL,Nat.reduceAdd,Int.reduceBEq,Int.reduceBNe,hx.len,hy.len,tag_load,tag_neq,ti25,hx.ia hp,hy.ia hq,wrapI (x := (t : Int) + 1) (by omega) (by omega)]
    refine hN15 _ ?_; try clear hN15 hD15 N15
    refine WC_ret ?_; (try simp only [Exit.after,Exit.out]); refine Kend_ret (by simp only [resOf,resL,resV,mkS_get,slots_get,cellsOf,ti3,sS,↓sT,Nat.reduceLT,Nat.reduceEqDiff]; rfl) (by first | rfl | (simp only [ti3]; done) | (simp only [ti3,okV,ok1,okC,okP,List.all_cons,List.all_nil,Bool.and_true]; done)) ?_
    clear hN11 hD11 N11 hN6 hD6 N6
    first
    | (rw [keep_bool,ne_of_at hp hq (by simpa only [Bool.not_eq_true',Bool.not_eq_eq_eq_not,Bool.not_true] using hb14)]; done)
    | (rw [keep_bool,beq_eq_false_iff_ne.2 (fun h => by subst h; simp at hb4)]; done)
    | (rw [ht,List.take_length,hlm,List.take_length] at htk; rw [keep_bool,beq_iff_eq.2 htk]; done)
   ·refine WC_skip ?_
    refine hN11 _ ?_; try clear hN11 hD11 N11
    refine WC_regN (fun N16 hN16 => ?_)
    simp only [sS,↓sT,Nat.reduceLT,Nat.reduceEqDiff,↓sO,↓WOps_g,sG,opV,loudV,cellsOf,strOp,evL,Nat.reduceAdd,Int.reduceBEq,Int.reduceBNe,hx.len,hy.len,tag_load,tag_neq,ti25,hx.ia hp,hy.ia hq,wrapI (x := (t : Int) + 1) (by omega) (by omega)]
    refine hN16 _ ?_; try clear hN16 N16
    have hpq : p = q := by
      obtain ⟨p1,p2⟩ := p
      obtain ⟨q1,q2⟩ := q
      simpa using hb14
    exact ⟨t + 1,⟨_,rfl,⟨rfl,rfl,rfl,rfl,trivial⟩,ht,take_eq hp hq htk hpq⟩,by omega⟩
  ·have ht : t = l.length := by have := of_decide_eq_false hb10; omega
   clear hb10
   refine WC_exit ?_
   refine hN6 _ ?_; try clear hN6 hD6 N6
   refine WC_seqR (fun N17 hN17 hD17 => ?_)
   simp only [sS,↓sT,Nat.reduceLT,Nat.reduceEqDiff,↓sO,↓WOps_g,sG,opV,loudV,cellsOf,strOp,evL,Nat.reduceAdd,Int.reduceBEq,Int.reduceBNe,hx.len,hy.len,tag_load,tag_neq,ti25]
   refine hN17 _ ?_; try clear hN17 hD17 N17
   refine WC_ret ?_; (try simp only [Exit.after,Exit.out]); refine Kend_ret (by simp only [resOf,resL,resV,mkS_get,slots_get,cellsOf,ti3,sS,↓sT,Nat.reduceLT,Nat.reduceEqDiff]; rfl) (by first | rfl | (simp only [ti3]; done) | (simp only [ti3,okV,ok1,okC,okP,List.all_cons,List.all_nil,Bool.and_true]; done)) ?_
   clear hN9 hD9 N9
   first
   | (rw [keep_bool,ne_of_at hp hq (by simpa only [Bool.not_eq_true',Bool.not_eq_eq_eq_not,Bool.not_true] using hb14)]; done)
   | (rw [keep_bool,beq_eq_false_iff_ne.2 (fun h => by subst h; simp at hb4)]; done)
   | (rw [ht,List.take_length,hlm,List.take_length] at htk; rw [keep_bool,beq_iff_eq.2 htk]; done)
def sameO (a b : OpS) : Bool := (a.idR == b.idR && a.idN == b.idN) && ((a.scR == b.scR && a.scN == b.scN) && ((a.time == b.time) && ((a.cart == b.cart) && ((a.kind == b.kind) && ((a.item == b.item) && ((a.atS == b.atS && (a.atG == b.atG && a.atN == b.atN)) && ((a.delta == b.delta) && ((a.has == b.has) && ((a.text == b.text) && (a.dropsL == b.dropsL))))))))))
end Go.PV
/- Whether two ops are the same: the two functions. -/
namespace Go.PV
open Go.Proofs
set_option linter.unusedVariables false
set_option linter.unusedSimpArgs false
set_option maxRecDepth 10000
set_option maxHeartbeats 1000000

theorem str_eql (s t : List UInt8) : strOp .eql s t = some (.bool (s == t)) := rfl
theorem c_punnet_op_Same (a b : OpS) (hL : a.dropsL.length ≤ 4611686018427387904) : VC Try.prog 52 [opW a, opW b] [] (fun r _ => r = .bool (sameO a b)) := by
 refine VC_enter (nt := 80) (rs := [.tmp 4]) (ow := []) (m := 0) Try.func52 rfl (by rfl) rfl rfl (by simp) (by simp [ownOf,op_toks]) rfl (fun n => ?_)
 simp only [zipT,Nat.zero_add]
 try simp only [List.append_eq,List.cons_append,List.nil_append]
 refine WC_seqR (fun N1 hN1 hD1 => ?_)
 simp only [sS,↓sT,Nat.reduceLT,Nat.reduceEqDiff,↓sO,↓WOps_g,sG,opV,loudV,cellsOf,strOp,evL,Nat.reduceAdd,Int.reduceBEq,Int.reduceBNe,op_cells,op_isC,opCells,List.all_cons,List.all_nil,icell_int,icell_str,icell_bool,dropsW_isC,Bool.and_self,load_slice,load_int,load_str,load_bool,tag_load2,ref_load,tag_eql,ref_eql,str_eql,bool_eql]
 refine hN1 _ ?_; try clear hN1 hD1 N1
 refine WC_seqR (fun N2 hN2 hD2 => ?_)
 simp only [sS,↓sT,Nat.reduceLT,Nat.reduceEqDiff,↓sO,↓WOps_g,sG,opV,loudV,cellsOf,strOp,evL,Nat.reduceAdd,Int.reduceBEq,Int.reduceBNe,fS49,ti25,ti2,ti9,ti3,ti47,ti4,ti38,op_cells,op_isC,opCells,List.all_cons,List.all_nil,icell_int,icell_str,icell_bool,dropsW_isC,Bool.and_self,load_slice,load_int,load_str,load_bool,tag_load2,ref_load,tag_eql,ref_eql,str_eql,bool_eql]
 refine stepB_T (fun hg2_5 => ?_) (fun hg2_5 => ?_)
 ·simp only [sS,↓sT,Nat.reduceLT,Nat.reduceEqDiff,↓sO,↓WOps_g,sG,opV,loudV,cellsOf,strOp,evL,Nat.reduceAdd,Int.reduceBEq,Int.reduceBNe,fS49,ti25,ti2,ti9,ti3,ti47,ti4,ti38,op_cells,op_isC,opCells,List.all_cons,List.all_nil,icell_int,icell_str,icell_bool,dropsW_isC,Bool.and_self,load_slice,load_int,load_str,load_bool,tag_load2,ref_load,tag_eql,ref_eql,str_eql,bool_eql,hg2_5]
  refine stepB_T (fun hg2_12 => ?_) (fun hg2_12 => ?_)
  ·simp only [sS,↓sT,Nat.reduceLT,Nat.reduceEqDiff,↓sO,↓WOps_g,sG,opV,loudV,cellsOf,strOp,evL,Nat.reduceAdd,Int.reduceBEq,Int.reduceBNe,fS49,ti25,ti2,ti9,ti3,ti47,ti4,ti38,op_cells,op_isC,opCells,List.all_cons,List.all_nil,icell_int,icell_str,icell_bool,dropsW_isC,Bool.and_self,load_slice,load_int,load_str,load_bool,tag_load2,ref_load,tag_eql,ref_eql,str_eql,bool_eql,hg2_5,hg2_12]
   refine stepB_T (fun hg2_19 => ?_) (fun hg2_19 => ?_)
   ·simp only [sS,↓sT,Nat.reduceLT,Nat.reduceEqDiff,↓sO,↓WOps_g,sG,opV,loudV,cellsOf,strOp,evL,Nat.reduceAdd,Int.reduceBEq,Int.reduceBNe,fS49,ti25,ti2,ti9,ti3,ti47,ti4,ti38,op_cells,op_isC,opCells,List.all_cons,List.all_nil,icell_int,icell_str,icell_bool,dropsW_isC,Bool.and_self,load_slice,load_int,load_str,load_bool,tag_load2,ref_load,tag_eql,ref_eql,str_eql,bool_eql,hg2_5,hg2_12,hg2_19]
    refine stepB_T (fun hg2_26 => ?_) (fun hg2_26 => ?_)
    ·simp only [sS,↓sT,Nat.reduceLT,Nat.reduceEqDiff,↓sO,↓WOps_g,sG,opV,loudV,cellsOf,strOp,evL,Nat.reduceAdd,Int.reduceBEq,Int.reduceBNe,fS49,ti25,ti2,ti9,ti3,ti47,ti4,ti38,op_cells,op_isC,opCells,List.all_cons,List.all_nil,icell_int,icell_str,icell_bool,dropsW_isC,Bool.and_self,load_slice,load_int,load_str,load_bool,tag_load2,ref_load,tag_eql,ref_eql,str_eql,bool_eql,hg2_5,hg2_12,hg2_19,hg2_26]
     refine stepB_T (fun hg2_33 => ?_) (fun hg2_33 => ?_)
     ·simp only [sS,↓sT,Nat.reduceLT,Nat.reduceEqDiff,↓sO,↓WOps_g,sG,opV,loudV,cellsOf,strOp,evL,Nat.reduceAdd,Int.reduceBEq,Int.reduceBNe,fS49,ti25,ti2,ti9,ti3,ti47,ti4,ti38,op_cells,op_isC,opCells,List.all_cons,List.all_nil,icell_int,icell_str,icell_bool,dropsW_isC,Bool.and_self,load_slice,load_int,load_str,load_bool,tag_load2,ref_load,tag_eql,ref_eql,str_eql,bool_eql,hg2_5,hg2_12,hg2_19,hg2_26,hg2_33]
      refine stepB_T (fun hg2_40 => ?_) (fun hg2_40 => ?_)
      ·simp only [sS,↓sT,Nat.reduceLT,Nat.reduceEqDiff,↓sO,↓WOps_g,sG,opV,loudV,cellsOf,strOp,evL,Nat.reduceAdd,Int.reduceBEq,Int.reduceBNe,fS49,ti25,ti2,ti9,ti3,ti47,ti4,ti38,op_cells,op_isC,opCells,List.all_cons,List.all_nil,icell_int,icell_str,icell_bool,dropsW_isC,Bool.and_self,load_slice,load_int,load_str,load_bool,tag_load2,ref_load,tag_eql,ref_eql,str_eql,bool_eql,hg2_5,hg2_12,hg2_19,hg2_26,hg2_33,hg2_40]
       refine stepB_T (fun hg2_47 => ?_) (fun hg2_47 => ?_)
       ·simp only [sS,↓sT,Nat.reduceLT,Nat.reduceEqDiff,↓sO,↓WOps_g,sG,opV,loudV,cellsOf,strOp,evL,Nat.reduceAdd,Int.reduceBEq,Int.reduceBNe,fS49,ti25,ti2,ti9,ti3,ti47,ti4,ti38,op_cells,op_isC,opCells,List.all_cons,List.all_nil,icell_int,icell_str,icell_bool,dropsW_isC,Bool.and_self,load_slice,load_int,load_str,load_bool,tag_load2,ref_load,tag_eql,ref_eql,str_eql,bool_eql,hg2_5,hg2_12,hg2_19,hg2_26,hg2_33,hg2_40,hg2_47]
        refine stepB_T (fun hg2_54 => ?_) (fun hg2_54 => ?_)
        ·simp only [sS,↓sT,Nat.reduceLT,Nat.reduceEqDiff,↓sO,↓WOps_g,sG,opV,loudV,cellsOf,strOp,evL,Nat.reduceAdd,Int.reduceBEq,Int.reduceBNe,fS49,ti25,ti2,ti9,ti3,ti47,ti4,ti38,op_cells,op_isC,opCells,List.all_cons,List.all_nil,icell_int,icell_str,icell_bool,dropsW_isC,Bool.and_self,load_slice,load_int,load_str,load_bool,tag_load2,ref_load,tag_eql,ref_eql,str_eql,bool_eql,hg2_5,hg2_12,hg2_19,hg2_26,hg2_33,hg2_40,hg2_47,hg2_54]
         refine stepB_T (fun hg2_61 => ?_) (fun hg2_61 => ?_)
         ·simp only [sS,↓sT,Nat.reduceLT,Nat.reduceEqDiff,↓sO,↓WOps_g,sG,opV,loudV,cellsOf,strOp,evL,Nat.reduceAdd,Int.reduceBEq,Int.reduceBNe,fS49,ti25,ti2,ti9,ti3,ti47,ti4,ti38,op_cells,op_isC,opCells,List.all_cons,List.all_nil,icell_int,icell_str,icell_bool,dropsW_isC,Bool.and_self,load_slice,load_int,load_str,load_bool,tag_load2,ref_load,tag_eql,ref_eql,str_eql,bool_eql,hg2_5,hg2_12,hg2_19,hg2_26,hg2_33,hg2_40,hg2_47,hg2_54,hg2_61]
          refine stepB_T (fun hg2_68 => ?_) (fun hg2_68 => ?_)
          ·simp only [sS,↓sT,Nat.reduceLT,Nat.reduceEqDiff,↓sO,↓WOps_g,sG,opV,loudV,cellsOf,strOp,evL,Nat.reduceAdd,Int.reduceBEq,Int.reduceBNe,fS49,ti25,ti2,ti9,ti3,ti47,ti4,ti38,op_cells,op_isC,opCells,List.all_cons,List.all_nil,icell_int,icell_str,icell_bool,dropsW_isC,Bool.and_self,load_slice,load_int,load_str,load_bool,tag_load2,ref_load,tag_eql,ref_eql,str_eql,bool_eql,hg2_5,hg2_12,hg2_19,hg2_26,hg2_33,hg2_40,hg2_47,hg2_54,hg2_61,hg2_68]
           refine WOps_callP (c_slices_Equal_punnet_api_Tag_punnet_api_Tag_ _ _ _ _ (dropsW_TS a.drops) (dropsW_TS b.drops) hL) (by simp only [ev_func]) (by simp only [evL,sS,↓sT,Nat.reduceLT,Nat.reduceEqDiff]; rfl) (by first | rfl | (simp only [List.map,(dropsW_TS a.drops).bare,(dropsW_TS b.drops).bare]; done) | (simp only [List.map,(dropsW_TS a.drops).bare,(dropsW_TS b.drops).bare]; exact rfl)) (by first | rfl | simp [(dropsW_TS a.drops).noP,(dropsW_TS b.drops).noP]) (by first | rfl | simp [(dropsW_TS a.drops).noP,(dropsW_TS b.drops).noP]) rfl ?_
           simp only [sS,↓sT,Nat.reduceLT,Nat.reduceEqDiff,↓sO,↓WOps_g,sG,opV,loudV,cellsOf,strOp,evL,Nat.reduceAdd,Int.reduceBEq,Int.reduceBNe,fS49,ti25,ti2,ti9,ti3,ti47,ti4,ti38,op_cells,op_isC,opCells,List.all_cons,List.all_nil,icell_int,icell_str,icell_bool,dropsW_isC,Bool.and_self,load_slice,load_int,load_str,load_bool,tag_load2,ref_load,tag_eql,ref_eql,str_eql,bool_eql,hg2_5,hg2_12,hg2_19,hg2_26,hg2_33,hg2_40,hg2_47,hg2_54,hg2_61,hg2_68]
           refine hN2 _ ?_; try clear hN2 hD2 N2
           refine WC_ret ?_; (try simp only [Exit.after,Exit.out]); refine Kend_ret (by simp only [resOf,resL,resV,mkS_get,slots_get,cellsOf,ti3,sS,↓sT,Nat.reduceLT,Nat.reduceEqDiff]; rfl) (by first | rfl | (simp only [ti3]; done) | (simp only [ti3,okV,ok1,okC,okP,List.all_cons,List.all_nil,Bool.and_true]; done)) ?_
           rw [keep_bool,sameO]; simp only [Bool.and_eq_true, *,Bool.true_and,Bool.false_and,OpS.dropsL,Bool.and_false]
          ·simp only [sS,↓sT,Nat.reduceLT,Nat.reduceEqDiff,↓sO,↓WOps_g,sG,opV,loudV,cellsOf,strOp,evL,Nat.reduceAdd,Int.reduceBEq,Int.reduceBNe,fS49,ti25,ti2,ti9,ti3,ti47,ti4,ti38,op_cells,op_isC,opCells,List.all_cons,List.all_nil,icell_int,icell_str,icell_bool,dropsW_isC,Bool.and_self,load_slice,load_int,load_str,load_bool,tag_load2,ref_load,tag_eql,ref_eql,str_eql,bool_eql,hg2_5,hg2_12,hg2_19,hg2_26,hg2_33,hg2_40,hg2_47,hg2_54,hg2_61,hg2_68]
           refine hN2 _ ?_; try clear hN2 hD2 N2
           refine WC_ret ?_; (try simp only [Exit.after,Exit.out]); refine Kend_ret (by simp only [resOf,resL,resV,mkS_get,slots_get,cellsOf,ti3,sS,↓sT,Nat.reduceLT,Nat.reduceEqDiff]; rfl) (by first | rfl | (simp only [ti3]; done) | (simp only [ti3,okV,ok1,okC,okP,List.all_cons,List.all_nil,Bool.and_true]; done)) ?_
           rw [keep_bool,sameO]; simp only [Bool.and_eq_true, *,Bool.true_and,Bool.false_and,OpS.dropsL,Bool.and_false]
         ·simp only [sS,↓sT,Nat.reduceLT,Nat.reduceEqDiff,↓sO,↓WOps_g,sG,opV,loudV,cellsOf,strOp,evL,Nat.reduceAdd,Int.reduceBEq,Int.reduceBNe,fS49,ti25,ti2,ti9,ti3,ti47,ti4,ti38,op_cells,op_isC,opCells,List.all_cons,List.all_nil,icell_int,icell_str,icell_bool,dropsW_isC,Bool.and_self,load_slice,load_int,load_str,load_bool,tag_load2,ref_load,tag_eql,ref_eql,str_eql,bool_eql,hg2_5,hg2_12,hg2_19,hg2_26,hg2_33,hg2_40,hg2_47,hg2_54,hg2_61]
          refine hN2 _ ?_; try clear hN2 hD2 N2
          refine WC_ret ?_; (try simp only [Exit.after,Exit.out]); refine Kend_ret (by simp only [resOf,resL,resV,mkS_get,slots_get,cellsOf,ti3,sS,↓sT,Nat.reduceLT,Nat.reduceEqDiff]; rfl) (by first | rfl | (simp only [ti3]; done) | (simp only [ti3,okV,ok1,okC,okP,List.all_cons,List.all_nil,Bool.and_true]; done)) ?_
          rw [keep_bool,sameO]; simp only [Bool.and_eq_true, *,Bool.true_and,Bool.false_and,OpS.dropsL,Bool.and_false]
        ·simp only [sS,↓sT,Nat.reduceLT,Nat.reduceEqDiff,↓sO,↓WOps_g,sG,opV,loudV,cellsOf,strOp,evL,Nat.reduceAdd,Int.reduceBEq,Int.reduceBNe,fS49,ti25,ti2,ti9,ti3,ti47,ti4,ti38,op_cells,op_isC,opCells,List.all_cons,List.all_nil,icell_int,icell_str,icell_bool,dropsW_isC,Bool.and_self,load_slice,load_int,load_str,load_bool,tag_load2,ref_load,tag_eql,ref_eql,str_eql,bool_eql,hg2_5,hg2_12,hg2_19,hg2_26,hg2_33,hg2_40,hg2_47,hg2_54]
         refine hN2 _ ?_; try clear hN2 hD2 N2
         refine WC_ret ?_; (try simp only [Exit.after,Exit.out]); refine Kend_ret (by simp only [resOf,resL,resV,mkS_get,slots_get,cellsOf,ti3,sS,↓sT,Nat.reduceLT,Nat.reduceEqDiff]; rfl) (by first | rfl | (simp only [ti3]; done) | (simp only [ti3,okV,ok1,okC,okP,List.all_cons,List.all_nil,Bool.and_true]; done)) ?_
         rw [keep_bool,sameO]; simp only [Bool.and_eq_true, *,Bool.true_and,Bool.false_and,OpS.dropsL,Bool.and_false]
       ·simp only [sS,↓sT,Nat.reduceLT,Nat.reduceEqDiff,↓sO,↓WOps_g,sG,opV,loudV,cellsOf,strOp,evL,Nat.reduceAdd,Int.reduceBEq,Int.reduceBNe,fS49,ti25,ti2,ti9,ti3,ti47,ti4,ti38,op_cells,op_isC,opCells,List.all_cons,List.all_nil,icell_int,icell_str,icell_bool,dropsW_isC,Bool.and_self,load_slice,load_int,load_str,load_bool,tag_load2,ref_load,tag_eql,ref_eql,str_eql,bool_eql,hg2_5,hg2_12,hg2_19,hg2_26,hg2_33,hg2_40,hg2_47]
        refine hN2 _ ?_; try clear hN2 hD2 N2
        refine WC_ret ?_; (try simp only [Exit.after,Exit.out]); refine Kend_ret (by simp only [resOf,resL,resV,mkS_get,slots_get,cellsOf,ti3,sS,↓sT,Nat.reduceLT,Nat.reduceEqDiff]; rfl) (by first | rfl | (simp only [ti3]; done) | (simp only [ti3,okV,ok1,okC,okP,List.all_cons,List.all_nil,Bool.and_true]; done)) ?_
        rw [keep_bool,sameO]; simp only [Bool.and_eq_true, *,Bool.true_and,Bool.false_and,OpS.dropsL,Bool.and_false]
      ·simp only [sS,↓sT,Nat.reduceLT,Nat.reduceEqDiff,↓sO,↓WOps_g,sG,opV,loudV,cellsOf,strOp,evL,Nat.reduceAdd,Int.reduceBEq,Int.reduceBNe,fS49,ti25,ti2,ti9,ti3,ti47,ti4,ti38,op_cells,op_isC,opCells,List.all_cons,List.all_nil,icell_int,icell_str,icell_bool,dropsW_isC,Bool.and_self,load_slice,load_int,load_str,load_bool,tag_load2,ref_load,tag_eql,ref_eql,str_eql,bool_eql,hg2_5,hg2_12,hg2_19,hg2_26,hg2_33,hg2_40]
       refine hN2 _ ?_; try clear hN2 hD2 N2
       refine WC_ret ?_; (try simp only [Exit.after,Exit.out]); refine Kend_ret (by simp only [resOf,resL,resV,mkS_get,slots_get,cellsOf,ti3,sS,↓sT,Nat.reduceLT,Nat.reduceEqDiff]; rfl) (by first | rfl | (simp only [ti3]; done) | (simp only [ti3,okV,ok1,okC,okP,List.all_cons,List.all_nil,Bool.and_true]; done)) ?_
       rw [keep_bool,sameO]; simp only [Bool.and_eq_true, *,Bool.true_and,Bool.false_and,OpS.dropsL,Bool.and_false]
     ·simp only [sS,↓sT,Nat.reduceLT,Nat.reduceEqDiff,↓sO,↓WOps_g,sG,opV,loudV,cellsOf,strOp,evL,Nat.reduceAdd,Int.reduceBEq,Int.reduceBNe,fS49,ti25,ti2,ti9,ti3,ti47,ti4,ti38,op_cells,op_isC,opCells,List.all_cons,List.all_nil,icell_int,icell_str,icell_bool,dropsW_isC,Bool.and_self,load_slice,load_int,load_str,load_bool,tag_load2,ref_load,tag_eql,ref_eql,str_eql,bool_eql,hg2_5,hg2_12,hg2_19,hg2_26,hg2_33]
      refine hN2 _ ?_; try clear hN2 hD2 N2
      refine WC_ret ?_; (try simp only [Exit.after,Exit.out]); refine Kend_ret (by simp only [resOf,resL,resV,mkS_get,slots_get,cellsOf,ti3,sS,↓sT,Nat.reduceLT,Nat.reduceEqDiff]; rfl) (by first | rfl | (simp only [ti3]; done) | (simp only [ti3,okV,ok1,okC,okP,List.all_cons,List.all_nil,Bool.and_true]; done)) ?_
      rw [keep_bool,sameO]; simp only [Bool.and_eq_true, *,Bool.true_and,Bool.false_and,OpS.dropsL,Bool.and_false]
    ·simp only [sS,↓sT,Nat.reduceLT,Nat.reduceEqDiff,↓sO,↓WOps_g,sG,opV,loudV,cellsOf,strOp,evL,Nat.reduceAdd,Int.reduceBEq,Int.reduceBNe,fS49,ti25,ti2,ti9,ti3,ti47,ti4,ti38,op_cells,op_isC,opCells,List.all_cons,List.all_nil,icell_int,icell_str,icell_bool,dropsW_isC,Bool.and_self,load_slice,load_int,load_str,load_bool,tag_load2,ref_load,tag_eql,ref_eql,str_eql,bool_eql,hg2_5,hg2_12,hg2_19,hg2_26]
     refine hN2 _ ?_; try clear hN2 hD2 N2
     refine WC_ret ?_; (try simp only [Exit.after,Exit.out]); refine Kend_ret (by simp only [resOf,resL,resV,mkS_get,slots_get,cellsOf,ti3,sS,↓sT,Nat.reduceLT,Nat.reduceEqDiff]; rfl) (by first | rfl | (simp only [ti3]; done) | (simp only [ti3,okV,ok1,okC,okP,List.all_cons,List.all_nil,Bool.and_true]; done)) ?_
     rw [keep_bool,sameO]; simp only [Bool.and_eq_true, *,Bool.true_and,Bool.false_and,OpS.dropsL,Bool.and_false]
   ·simp only [sS,↓sT,Nat.reduceLT,Nat.reduceEqDiff,↓sO,↓WOps_g,sG,opV,loudV,cellsOf,strOp,evL,Nat.reduceAdd,Int.reduceBEq,Int.reduceBNe,fS49,ti25,ti2,ti9,ti3,ti47,ti4,ti38,op_cells,op_isC,opCells,List.all_cons,List.all_nil,icell_int,icell_str,icell_bool,dropsW_isC,Bool.and_self,load_slice,load_int,load_str,load_bool,tag_load2,ref_load,tag_eql,ref_eql,str_eql,bool_eql,hg2_5,hg2_12,hg2_19]
    refine hN2 _ ?_; try clear hN2 hD2 N2
    refine WC_ret ?_; (try simp only [Exit.after,Exit.out]); refine Kend_ret (by simp only [resOf,resL,resV,mkS_get,slots_get,cellsOf,ti3,sS,↓sT,Nat.reduceLT,Nat.reduceEqDiff]; rfl) (by first | rfl | (simp only [ti3]; done) | (simp only [ti3,okV,ok1,okC,okP,List.all_cons,List.all_nil,Bool.and_true]; done)) ?_
    rw [keep_bool,sameO]; simp only [Bool.and_eq_true, *,Bool.true_and,Bool.false_and,OpS.dropsL,Bool.and_false]
  ·simp only [sS,↓sT,Nat.reduceLT,Nat.reduceEqDiff,↓sO,↓WOps_g,sG,opV,loudV,cellsOf,strOp,evL,Nat.reduceAdd,Int.reduceBEq,Int.reduceBNe,fS49,ti25,ti2,ti9,ti3,ti47,ti4,ti38,op_cells,op_isC,opCells,List.all_cons,List.all_nil,icell_int,icell_str,icell_bool,dropsW_isC,Bool.and_self,load_slice,load_int,load_str,load_bool,tag_load2,ref_load,tag_eql,ref_eql,str_eql,bool_eql,hg2_5,hg2_12]
   refine hN2 _ ?_; try clear hN2 hD2 N2
   refine WC_ret ?_; (try simp only [Exit.after,Exit.out]); refine Kend_ret (by simp only [resOf,resL,resV,mkS_get,slots_get,cellsOf,ti3,sS,↓sT,Nat.reduceLT,Nat.reduceEqDiff]; rfl) (by first | rfl | (simp only [ti3]; done) | (simp only [ti3,okV,ok1,okC,okP,List.all_cons,List.all_nil,Bool.and_true]; done)) ?_
   rw [keep_bool,sameO]; simp only [Bool.and_eq_true, *,Bool.true_and,Bool.false_and,OpS.dropsL,Bool.and_false]
 ·simp only [sS,↓sT,Nat.reduceLT,Nat.reduceEqDiff,↓sO,↓WOps_g,sG,opV,loudV,cellsOf,strOp,evL,Nat.reduceAdd,Int.reduceBEq,Int.reduceBNe,fS49,ti25,ti2,ti9,ti3,ti47,ti4,ti38,op_cells,op_isC,opCells,List.all_cons,List.all_nil,icell_int,icell_str,icell_bool,dropsW_isC,Bool.and_self,load_slice,load_int,load_str,load_bool,tag_load2,ref_load,tag_eql,ref_eql,str_eql,bool_eql,hg2_5]
  refine hN2 _ ?_; try clear hN2 hD2 N2
  refine WC_ret ?_; (try simp only [Exit.after,Exit.out]); refine Kend_ret (by simp only [resOf,resL,resV,mkS_get,slots_get,cellsOf,ti3,sS,↓sT,Nat.reduceLT,Nat.reduceEqDiff]; rfl) (by first | rfl | (simp only [ti3]; done) | (simp only [ti3,okV,ok1,okC,okP,List.all_cons,List.all_nil,Bool.and_true]; done)) ?_
  rw [keep_bool,sameO]; simp only [Bool.and_eq_true, *,Bool.true_and,Bool.false_and,OpS.dropsL,Bool.and_false]
theorem c_punnet_punnetref20_Same (a b : OpS) (hL : a.dropsL.length ≤ 4611686018427387904) : VC Try.prog 41 [opW a, opW b] [] (fun r _ => r = .bool (sameO a b)) := by
 refine VC_enter (nt := 80) (rs := [.tmp 4]) (ow := []) (m := 0) Try.func41 rfl (by rfl) rfl rfl (by simp) (by simp [ownOf,op_toks]) rfl (fun n => ?_)
 simp only [zipT,Nat.zero_add]
 try simp only [List.append_eq,List.cons_append,List.nil_append]
 refine WC_seqR (fun N1 hN1 hD1 => ?_)
 simp only [sS,↓sT,Nat.reduceLT,Nat.reduceEqDiff,↓sO,↓WOps_g,sG,opV,loudV,cellsOf,strOp,evL,Nat.reduceAdd,Int.reduceBEq,Int.reduceBNe,op_cells,op_isC,opCells,List.all_cons,List.all_nil,icell_int,icell_str,icell_bool,dropsW_isC,Bool.and_self,load_slice,load_int,load_str,load_bool,tag_load2,ref_load,tag_eql,ref_eql,str_eql,bool_eql]
 refine hN1 _ ?_; try clear hN1 hD1 N1
 refine WC_seqR (fun N2 hN2 hD2 => ?_)
 simp only [sS,↓sT,Nat.reduceLT,Nat.reduceEqDiff,↓sO,↓WOps_g,sG,opV,loudV,cellsOf,strOp,evL,Nat.reduceAdd,Int.reduceBEq,Int.reduceBNe,fS49,ti25,ti2,ti9,ti3,ti47,ti4,ti38,op_cells,op_isC,opCells,List.all_cons,List.all_nil,icell_int,icell_str,icell_bool,dropsW_isC,Bool.and_self,load_slice,load_int,load_str,load_bool,tag_load2,ref_load,tag_eql,ref_eql,str_eql,bool_eql]
 refine stepB_T (fun hg2_5 => ?_) (fun hg2_5 => ?_)
 ·simp only [sS,↓sT,Nat.reduceLT,Nat.reduceEqDiff,↓sO,↓WOps_g,sG,opV,loudV,cellsOf,strOp,evL,Nat.reduceAdd,Int.reduceBEq,Int.reduceBNe,fS49,ti25,ti2,ti9,ti3,ti47,ti4,ti38,op_cells,op_isC,opCells,List.all_cons,List.all_nil,icell_int,icell_str,icell_bool,dropsW_isC,Bool.and_self,load_slice,load_int,load_str,load_bool,tag_load2,ref_load,tag_eql,ref_eql,str_eql,bool_eql,hg2_5]
  refine stepB_T (fun hg2_12 => ?_) (fun hg2_12 => ?_)
  ·simp only [sS,↓sT,Nat.reduceLT,Nat.reduceEqDiff,↓sO,↓WOps_g,sG,opV,loudV,cellsOf,strOp,evL,Nat.reduceAdd,Int.reduceBEq,Int.reduceBNe,fS49,ti25,ti2,ti9,ti3,ti47,ti4,ti38,op_cells,op_isC,opCells,List.all_cons,List.all_nil,icell_int,icell_str,icell_bool,dropsW_isC,Bool.and_self,load_slice,load_int,load_str,load_bool,tag_load2,ref_load,tag_eql,ref_eql,str_eql,bool_eql,hg2_5,hg2_12]
   refine stepB_T (fun hg2_19 => ?_) (fun hg2_19 => ?_)
   ·simp only [sS,↓sT,Nat.reduceLT,Nat.reduceEqDiff,↓sO,↓WOps_g,sG,opV,loudV,cellsOf,strOp,evL,Nat.reduceAdd,Int.reduceBEq,Int.reduceBNe,fS49,ti25,ti2,ti9,ti3,ti47,ti4,ti38,op_cells,op_isC,opCells,List.all_cons,List.all_nil,icell_int,icell_str,icell_bool,dropsW_isC,Bool.and_self,load_slice,load_int,load_str,load_bool,tag_load2,ref_load,tag_eql,ref_eql,str_eql,bool_eql,hg2_5,hg2_12,hg2_19]
    refine stepB_T (fun hg2_26 => ?_) (fun hg2_26 => ?_)
    ·simp only [sS,↓sT,Nat.reduceLT,Nat.reduceEqDiff,↓sO,↓WOps_g,sG,opV,loudV,cellsOf,strOp,evL,Nat.reduceAdd,Int.reduceBEq,Int.reduceBNe,fS49,ti25,ti2,ti9,ti3,ti47,ti4,ti38,op_cells,op_isC,opCells,List.all_cons,List.all_nil,icell_int,icell_str,icell_bool,dropsW_isC,Bool.and_self,load_slice,load_int,load_str,load_bool,tag_load2,ref_load,tag_eql,ref_eql,str_eql,bool_eql,hg2_5,hg2_12,hg2_19,hg2_26]
     refine stepB_T (fun hg2_33 => ?_) (fun hg2_33 => ?_)
     ·simp only [sS,↓sT,Nat.reduceLT,Nat.reduceEqDiff,↓sO,↓WOps_g,sG,opV,loudV,cellsOf,strOp,evL,Nat.reduceAdd,Int.reduceBEq,Int.reduceBNe,fS49,ti25,ti2,ti9,ti3,ti47,ti4,ti38,op_cells,op_isC,opCells,List.all_cons,List.all_nil,icell_int,icell_str,icell_bool,dropsW_isC,Bool.and_self,load_slice,load_int,load_str,load_bool,tag_load2,ref_load,tag_eql,ref_eql,str_eql,bool_eql,hg2_5,hg2_12,hg2_19,hg2_26,hg2_33]
      refine stepB_T (fun hg2_40 => ?_) (fun hg2_40 => ?_)
      ·simp only [sS,↓sT,Nat.reduceLT,Nat.reduceEqDiff,↓sO,↓WOps_g,sG,opV,loudV,cellsOf,strOp,evL,Nat.reduceAdd,Int.reduceBEq,Int.reduceBNe,fS49,ti25,ti2,ti9,ti3,ti47,ti4,ti38,op_cells,op_isC,opCells,List.all_cons,List.all_nil,icell_int,icell_str,icell_bool,dropsW_isC,Bool.and_self,load_slice,load_int,load_str,load_bool,tag_load2,ref_load,tag_eql,ref_eql,str_eql,bool_eql,hg2_5,hg2_12,hg2_19,hg2_26,hg2_33,hg2_40]
       refine stepB_T (fun hg2_47 => ?_) (fun hg2_47 => ?_)
       ·simp only [sS,↓sT,Nat.reduceLT,Nat.reduceEqDiff,↓sO,↓WOps_g,sG,opV,loudV,cellsOf,strOp,evL,Nat.reduceAdd,Int.reduceBEq,Int.reduceBNe,fS49,ti25,ti2,ti9,ti3,ti47,ti4,ti38,op_cells,op_isC,opCells,List.all_cons,List.all_nil,icell_int,icell_str,icell_bool,dropsW_isC,Bool.and_self,load_slice,load_int,load_str,load_bool,tag_load2,ref_load,tag_eql,ref_eql,str_eql,bool_eql,hg2_5,hg2_12,hg2_19,hg2_26,hg2_33,hg2_40,hg2_47]
        refine stepB_T (fun hg2_54 => ?_) (fun hg2_54 => ?_)
        ·simp only [sS,↓sT,Nat.reduceLT,Nat.reduceEqDiff,↓sO,↓WOps_g,sG,opV,loudV,cellsOf,strOp,evL,Nat.reduceAdd,Int.reduceBEq,Int.reduceBNe,fS49,ti25,ti2,ti9,ti3,ti47,ti4,ti38,op_cells,op_isC,opCells,List.all_cons,List.all_nil,icell_int,icell_str,icell_bool,dropsW_isC,Bool.and_self,load_slice,load_int,load_str,load_bool,tag_load2,ref_load,tag_eql,ref_eql,str_eql,bool_eql,hg2_5,hg2_12,hg2_19,hg2_26,hg2_33,hg2_40,hg2_47,hg2_54]
         refine stepB_T (fun hg2_61 => ?_) (fun hg2_61 => ?_)
         ·simp only [sS,↓sT,Nat.reduceLT,Nat.reduceEqDiff,↓sO,↓WOps_g,sG,opV,loudV,cellsOf,strOp,evL,Nat.reduceAdd,Int.reduceBEq,Int.reduceBNe,fS49,ti25,ti2,ti9,ti3,ti47,ti4,ti38,op_cells,op_isC,opCells,List.all_cons,List.all_nil,icell_int,icell_str,icell_bool,dropsW_isC,Bool.and_self,load_slice,load_int,load_str,load_bool,tag_load2,ref_load,tag_eql,ref_eql,str_eql,bool_eql,hg2_5,hg2_12,hg2_19,hg2_26,hg2_33,hg2_40,hg2_47,hg2_54,hg2_61]
          refine stepB_T (fun hg2_68 => ?_) (fun hg2_68 => ?_)
          ·simp only [sS,↓sT,Nat.reduceLT,Nat.reduceEqDiff,↓sO,↓WOps_g,sG,opV,loudV,cellsOf,strOp,evL,Nat.reduceAdd,Int.reduceBEq,Int.reduceBNe,fS49,ti25,ti2,ti9,ti3,ti47,ti4,ti38,op_cells,op_isC,opCells,List.all_cons,List.all_nil,icell_int,icell_str,icell_bool,dropsW_isC,Bool.and_self,load_slice,load_int,load_str,load_bool,tag_load2,ref_load,tag_eql,ref_eql,str_eql,bool_eql,hg2_5,hg2_12,hg2_19,hg2_26,hg2_33,hg2_40,hg2_47,hg2_54,hg2_61,hg2_68]
           refine WOps_callP (c_punnet_punnetref17_SameTags _ _ _ _ (dropsW_TS a.drops) (dropsW_TS b.drops) hL) (by simp only [ev_func]) (by simp only [evL,sS,↓sT,Nat.reduceLT,Nat.reduceEqDiff]; rfl) (by first | rfl | (simp only [List.map,(dropsW_TS a.drops).bare,(dropsW_TS b.drops).bare]; done) | (simp only [List.map,(dropsW_TS a.drops).bare,(dropsW_TS b.drops).bare]; exact rfl)) (by first | rfl | simp [(dropsW_TS a.drops).noP,(dropsW_TS b.drops).noP]) (by first | rfl | simp [(dropsW_TS a.drops).noP,(dropsW_TS b.drops).noP]) rfl ?_
           simp only [sS,↓sT,Nat.reduceLT,Nat.reduceEqDiff,↓sO,↓WOps_g,sG,opV,loudV,cellsOf,strOp,evL,Nat.reduceAdd,Int.reduceBEq,Int.reduceBNe,fS49,ti25,ti2,ti9,ti3,ti47,ti4,ti38,op_cells,op_isC,opCells,List.all_cons,List.all_nil,icell_int,icell_str,icell_bool,dropsW_isC,Bool.and_self,load_slice,load_int,load_str,load_bool,tag_load2,ref_load,tag_eql,ref_eql,str_eql,bool_eql,hg2_5,hg2_12,hg2_19,hg2_26,hg2_33,hg2_40,hg2_47,hg2_54,hg2_61,hg2_68]
           refine hN2 _ ?_; try clear hN2 hD2 N2
           refine WC_ret ?_; (try simp only [Exit.after,Exit.out]); refine Kend_ret (by simp only [resOf,resL,resV,mkS_get,slots_get,cellsOf,ti3,sS,↓sT,Nat.reduceLT,Nat.reduceEqDiff]; rfl) (by first | rfl | (simp only [ti3]; done) | (simp only [ti3,okV,ok1,okC,okP,List.all_cons,List.all_nil,Bool.and_true]; done)) ?_
           rw [keep_bool,sameO]; simp only [Bool.and_eq_true, *,Bool.true_and,Bool.false_and,OpS.dropsL,Bool.and_false]
          ·simp only [sS,↓sT,Nat.reduceLT,Nat.reduceEqDiff,↓sO,↓WOps_g,sG,opV,loudV,cellsOf,strOp,evL,Nat.reduceAdd,Int.reduceBEq,Int.reduceBNe,fS49,ti25,ti2,ti9,ti3,ti47,ti4,ti38,op_cells,op_isC,opCells,List.all_cons,List.all_nil,icell_int,icell_str,icell_bool,dropsW_isC,Bool.and_self,load_slice,load_int,load_str,load_bool,tag_load2,ref_load,tag_eql,ref_eql,str_eql,bool_eql,hg2_5,hg2_12,hg2_19,hg2_26,hg2_33,hg2_40,hg2_47,hg2_54,hg2_61,hg2_68]
           refine hN2 _ ?_; try clear hN2 hD2 N2
           refine WC_ret ?_; (try simp only [Exit.after,Exit.out]); refine Kend_ret (by simp only [resOf,resL,resV,mkS_get,slots_get,cellsOf,ti3,sS,↓sT,Nat.reduceLT,Nat.reduceEqDiff]; rfl) (by first | rfl | (simp only [ti3]; done) | (simp only [ti3,okV,ok1,okC,okP,List.all_cons,List.all_nil,Bool.and_true]; done)) ?_
           rw [keep_bool,sameO]; simp only [Bool.and_eq_true, *,Bool.true_and,Bool.false_and,OpS.dropsL,Bool.and_false]
         ·simp only [sS,↓sT,Nat.reduceLT,Nat.reduceEqDiff,↓sO,↓WOps_g,sG,opV,loudV,cellsOf,strOp,evL,Nat.reduceAdd,Int.reduceBEq,Int.reduceBNe,fS49,ti25,ti2,ti9,ti3,ti47,ti4,ti38,op_cells,op_isC,opCells,List.all_cons,List.all_nil,icell_int,icell_str,icell_bool,dropsW_isC,Bool.and_self,load_slice,load_int,load_str,load_bool,tag_load2,ref_load,tag_eql,ref_eql,str_eql,bool_eql,hg2_5,hg2_12,hg2_19,hg2_26,hg2_33,hg2_40,hg2_47,hg2_54,hg2_61]
          refine hN2 _ ?_; try clear hN2 hD2 N2
          refine WC_ret ?_; (try simp only [Exit.after,Exit.out]); refine Kend_ret (by simp only [resOf,resL,resV,mkS_get,slots_get,cellsOf,ti3,sS,↓sT,Nat.reduceLT,Nat.reduceEqDiff]; rfl) (by first | rfl | (simp only [ti3]; done) | (simp only [ti3,okV,ok1,okC,okP,List.all_cons,List.all_nil,Bool.and_true]; done)) ?_
          rw [keep_bool,sameO]; simp only [Bool.and_eq_true, *,Bool.true_and,Bool.false_and,OpS.dropsL,Bool.and_false]
        ·simp only [sS,↓sT,Nat.reduceLT,Nat.reduceEqDiff,↓sO,↓WOps_g,sG,opV,loudV,cellsOf,strOp,evL,Nat.reduceAdd,Int.reduceBEq,Int.reduceBNe,fS49,ti25,ti2,ti9,ti3,ti47,ti4,ti38,op_cells,op_isC,opCells,List.all_cons,List.all_nil,icell_int,icell_str,icell_bool,dropsW_isC,Bool.and_self,load_slice,load_int,load_str,load_bool,tag_load2,ref_load,tag_eql,ref_eql,str_eql,bool_eql,hg2_5,hg2_12,hg2_19,hg2_26,hg2_33,hg2_40,hg2_47,hg2_54]
         refine hN2 _ ?_; try clear hN2 hD2 N2
         refine WC_ret ?_; (try simp only [Exit.after,Exit.out]); refine Kend_ret (by simp only [resOf,resL,resV,mkS_get,slots_get,cellsOf,ti3,sS,↓sT,Nat.reduceLT,Nat.reduceEqDiff]; rfl) (by first | rfl | (simp only [ti3]; done) | (simp only [ti3,okV,ok1,okC,okP,List.all_cons,List.all_nil,Bool.and_true]; done)) ?_
         rw [keep_bool,sameO]; simp only [Bool.and_eq_true, *,Bool.true_and,Bool.false_and,OpS.dropsL,Bool.and_false]
       ·simp only [sS,↓sT,Nat.reduceLT,Nat.reduceEqDiff,↓sO,↓WOps_g,sG,opV,loudV,cellsOf,strOp,evL,Nat.reduceAdd,Int.reduceBEq,Int.reduceBNe,fS49,ti25,ti2,ti9,ti3,ti47,ti4,ti38,op_cells,op_isC,opCells,List.all_cons,List.all_nil,icell_int,icell_str,icell_bool,dropsW_isC,Bool.and_self,load_slice,load_int,load_str,load_bool,tag_load2,ref_load,tag_eql,ref_eql,str_eql,bool_eql,hg2_5,hg2_12,hg2_19,hg2_26,hg2_33,hg2_40,hg2_47]
        refine hN2 _ ?_; try clear hN2 hD2 N2
        refine WC_ret ?_; (try simp only [Exit.after,Exit.out]); refine Kend_ret (by simp only [resOf,resL,resV,mkS_get,slots_get,cellsOf,ti3,sS,↓sT,Nat.reduceLT,Nat.reduceEqDiff]; rfl) (by first | rfl | (simp only [ti3]; done) | (simp only [ti3,okV,ok1,okC,okP,List.all_cons,List.all_nil,Bool.and_true]; done)) ?_
        rw [keep_bool,sameO]; simp only [Bool.and_eq_true, *,Bool.true_and,Bool.false_and,OpS.dropsL,Bool.and_false]
      ·simp only [sS,↓sT,Nat.reduceLT,Nat.reduceEqDiff,↓sO,↓WOps_g,sG,opV,loudV,cellsOf,strOp,evL,Nat.reduceAdd,Int.reduceBEq,Int.reduceBNe,fS49,ti25,ti2,ti9,ti3,ti47,ti4,ti38,op_cells,op_isC,opCells,List.all_cons,List.all_nil,icell_int,icell_str,icell_bool,dropsW_isC,Bool.and_self,load_slice,load_int,load_str,load_bool,tag_load2,ref_load,tag_eql,ref_eql,str_eql,bool_eql,hg2_5,hg2_12,hg2_19,hg2_26,hg2_33,hg2_40]
       refine hN2 _ ?_; try clear hN2 hD2 N2
       refine WC_ret ?_; (try simp only [Exit.after,Exit.out]); refine Kend_ret (by simp only [resOf,resL,resV,mkS_get,slots_get,cellsOf,ti3,sS,↓sT,Nat.reduceLT,Nat.reduceEqDiff]; rfl) (by first | rfl | (simp only [ti3]; done) | (simp only [ti3,okV,ok1,okC,okP,List.all_cons,List.all_nil,Bool.and_true]; done)) ?_
       rw [keep_bool,sameO]; simp only [Bool.and_eq_true, *,Bool.true_and,Bool.false_and,OpS.dropsL,Bool.and_false]
     ·simp only [sS,↓sT,Nat.reduceLT,Nat.reduceEqDiff,↓sO,↓WOps_g,sG,opV,loudV,cellsOf,strOp,evL,Nat.reduceAdd,Int.reduceBEq,Int.reduceBNe,fS49,ti25,ti2,ti9,ti3,ti47,ti4,ti38,op_cells,op_isC,opCells,List.all_cons,List.all_nil,icell_int,icell_str,icell_bool,dropsW_isC,Bool.and_self,load_slice,load_int,load_str,load_bool,tag_load2,ref_load,tag_eql,ref_eql,str_eql,bool_eql,hg2_5,hg2_12,hg2_19,hg2_26,hg2_33]
      refine hN2 _ ?_; try clear hN2 hD2 N2
      refine WC_ret ?_; (try simp only [Exit.after,Exit.out]); refine Kend_ret (by simp only [resOf,resL,resV,mkS_get,slots_get,cellsOf,ti3,sS,↓sT,Nat.reduceLT,Nat.reduceEqDiff]; rfl) (by first | rfl | (simp only [ti3]; done) | (simp only [ti3,okV,ok1,okC,okP,List.all_cons,List.all_nil,Bool.and_true]; done)) ?_
      rw [keep_bool,sameO]; simp only [Bool.and_eq_true, *,Bool.true_and,Bool.false_and,OpS.dropsL,Bool.and_false]
    ·simp only [sS,↓sT,Nat.reduceLT,Nat.reduceEqDiff,↓sO,↓WOps_g,sG,opV,loudV,cellsOf,strOp,evL,Nat.reduceAdd,Int.reduceBEq,Int.reduceBNe,fS49,ti25,ti2,ti9,ti3,ti47,ti4,ti38,op_cells,op_isC,opCells,List.all_cons,List.all_nil,icell_int,icell_str,icell_bool,dropsW_isC,Bool.and_self,load_slice,load_int,load_str,load_bool,tag_load2,ref_load,tag_eql,ref_eql,str_eql,bool_eql,hg2_5,hg2_12,hg2_19,hg2_26]
     refine hN2 _ ?_; try clear hN2 hD2 N2
     refine WC_ret ?_; (try simp only [Exit.after,Exit.out]); refine Kend_ret (by simp only [resOf,resL,resV,mkS_get,slots_get,cellsOf,ti3,sS,↓sT,Nat.reduceLT,Nat.reduceEqDiff]; rfl) (by first | rfl | (simp only [ti3]; done) | (simp only [ti3,okV,ok1,okC,okP,List.all_cons,List.all_nil,Bool.and_true]; done)) ?_
     rw [keep_bool,sameO]; simp only [Bool.and_eq_true, *,Bool.true_and,Bool.false_and,OpS.dropsL,Bool.and_false]
   ·simp only [sS,↓sT,Nat.reduceLT,Nat.reduceEqDiff,↓sO,↓WOps_g,sG,opV,loudV,cellsOf,strOp,evL,Nat.reduceAdd,Int.reduceBEq,Int.reduceBNe,fS49,ti25,ti2,ti9,ti3,ti47,ti4,ti38,op_cells,op_isC,opCells,List.all_cons,List.all_nil,icell_int,icell_str,icell_bool,dropsW_isC,Bool.and_self,load_slice,load_int,load_str,load_bool,tag_load2,ref_load,tag_eql,ref_eql,str_eql,bool_eql,hg2_5,hg2_12,hg2_19]
    refine hN2 _ ?_; try clear hN2 hD2 N2
    refine WC_ret ?_; (try simp only [Exit.after,Exit.out]); refine Kend_ret (by simp only [resOf,resL,resV,mkS_get,slots_get,cellsOf,ti3,sS,↓sT,Nat.reduceLT,Nat.reduceEqDiff]; rfl) (by first | rfl | (simp only [ti3]; done) | (simp only [ti3,okV,ok1,okC,okP,List.all_cons,List.all_nil,Bool.and_true]; done)) ?_
    rw [keep_bool,sameO]; simp only [Bool.and_eq_true, *,Bool.true_and,Bool.false_and,OpS.dropsL,Bool.and_false]
  ·simp only [sS,↓sT,Nat.reduceLT,Nat.reduceEqDiff,↓sO,↓WOps_g,sG,opV,loudV,cellsOf,strOp,evL,Nat.reduceAdd,Int.reduceBEq,Int.reduceBNe,fS49,ti25,ti2,ti9,ti3,ti47,ti4,ti38,op_cells,op_isC,opCells,List.all_cons,List.all_nil,icell_int,icell_str,icell_bool,dropsW_isC,Bool.and_self,load_slice,load_int,load_str,load_bool,tag_load2,ref_load,tag_eql,ref_eql,str_eql,bool_eql,hg2_5,hg2_12]
   refine hN2 _ ?_; try clear hN2 hD2 N2
   refine WC_ret ?_; (try simp only [Exit.after,Exit.out]); refine Kend_ret (by simp only [resOf,resL,resV,mkS_get,slots_get,cellsOf,ti3,sS,↓sT,Nat.reduceLT,Nat.reduceEqDiff]; rfl) (by first | rfl | (simp only [ti3]; done) | (simp only [ti3,okV,ok1,okC,okP,List.all_cons,List.all_nil,Bool.and_true]; done)) ?_
   rw [keep_bool,sameO]; simp only [Bool.and_eq_true, *,Bool.true_and,Bool.false_and,OpS.dropsL,Bool.and_false]
 ·simp only [sS,↓sT,Nat.reduceLT,Nat.reduceEqDiff,↓sO,↓WOps_g,sG,opV,loudV,cellsOf,strOp,evL,Nat.reduceAdd,Int.reduceBEq,Int.reduceBNe,fS49,ti25,ti2,ti9,ti3,ti47,ti4,ti38,op_cells,op_isC,opCells,List.all_cons,List.all_nil,icell_int,icell_str,icell_bool,dropsW_isC,Bool.and_self,load_slice,load_int,load_str,load_bool,tag_load2,ref_load,tag_eql,ref_eql,str_eql,bool_eql,hg2_5]
  refine hN2 _ ?_; try clear hN2 hD2 N2
  refine WC_ret ?_; (try simp only [Exit.after,Exit.out]); refine Kend_ret (by simp only [resOf,resL,resV,mkS_get,slots_get,cellsOf,ti3,sS,↓sT,Nat.reduceLT,Nat.reduceEqDiff]; rfl) (by first | rfl | (simp only [ti3]; done) | (simp only [ti3,okV,ok1,okC,okP,List.all_cons,List.all_nil,Bool.and_true]; done)) ?_
  rw [keep_bool,sameO]; simp only [Bool.and_eq_true, *,Bool.true_and,Bool.false_and,OpS.dropsL,Bool.and_false]
end Go.PV
/- The parts of an op that its kind has. -/
namespace Go.PV
open Go.Proofs
set_option linter.unusedVariables false
set_option linter.unusedSimpArgs false
set_option maxRecDepth 10000

def fieldK (k : Int) : Bool := k == 3 || k == 4
def partsS (o : OpS) : OpS :=
  { o with
    item := if fieldK o.kind = false ∧ o.kind ≠ 5 ∨ fieldK o.kind = true ∧ o.atS = 1 then o.item else []
    atS := if fieldK o.kind = true then o.atS else 0
    atG := if fieldK o.kind = true then o.atG else []
    atN := if fieldK o.kind = true then o.atN else []
    delta := if o.kind = 3 then o.delta else 0
    has := if o.kind = 4 then o.has else false
    text := if o.kind = 4 ∧ o.has = true then o.text else []
    drops := if o.kind = 4 ∨ o.kind = 2 ∨ o.kind = 5 then o.drops else Dr.nil }
theorem pt_1n (i j k l t : Int) (c m g n x : List UInt8) (d : Int) (s : Int) (h : Bool) (q : List (Int × Int)) (e : TS q .nils) : (xCall Try.prog tab 400 4 56 [opW ⟨i, j, k, l, t, c, 1, m, s, g, n, d, h, x, ⟨q, .nils, e⟩⟩] [] [] 0).map (·.1) = some (opW (partsS ⟨i, j, k, l, t, c, 1, m, s, g, n, d, h, x, ⟨q, .nils, e⟩⟩)) := by kernel_rfl
theorem pt_2n (i j k l t : Int) (c m g n x : List UInt8) (d : Int) (s : Int) (h : Bool) (q : List (Int × Int)) (e : TS q .nils) : (xCall Try.prog tab 400 4 56 [opW ⟨i, j, k, l, t, c, 2, m, s, g, n, d, h, x, ⟨q, .nils, e⟩⟩] [] [] 0).map (·.1) = some (opW (partsS ⟨i, j, k, l, t, c, 2, m, s, g, n, d, h, x, ⟨q, .nils, e⟩⟩)) := by kernel_rfl
theorem pt_5n (i j k l t : Int) (c m g n x : List UInt8) (d : Int) (s : Int) (h : Bool) (q : List (Int × Int)) (e : TS q .nils) : (xCall Try.prog tab 400 4 56 [opW ⟨i, j, k, l, t, c, 5, m, s, g, n, d, h, x, ⟨q, .nils, e⟩⟩] [] [] 0).map (·.1) = some (opW (partsS ⟨i, j, k, l, t, c, 5, m, s, g, n, d, h, x, ⟨q, .nils, e⟩⟩)) := by kernel_rfl
theorem pt_30n (i j k l t : Int) (c m g n x : List UInt8) (d : Int) (h : Bool) (q : List (Int × Int)) (e : TS q .nils) : (xCall Try.prog tab 400 4 56 [opW ⟨i, j, k, l, t, c, 3, m, .ofNat 0, g, n, d, h, x, ⟨q, .nils, e⟩⟩] [] [] 0).map (·.1) = some (opW (partsS ⟨i, j, k, l, t, c, 3, m, .ofNat 0, g, n, d, h, x, ⟨q, .nils, e⟩⟩)) := by kernel_rfl
theorem pt_40tn (i j k l t : Int) (c m g n x : List UInt8) (d : Int) (q : List (Int × Int)) (e : TS q .nils) : (xCall Try.prog tab 400 4 56 [opW ⟨i, j, k, l, t, c, 4, m, .ofNat 0, g, n, d, true, x, ⟨q, .nils, e⟩⟩] [] [] 0).map (·.1) = some (opW (partsS ⟨i, j, k, l, t, c, 4, m, .ofNat 0, g, n, d, true, x, ⟨q, .nils, e⟩⟩)) := by kernel_rfl
theorem pt_40fn (i j k l t : Int) (c m g n x : List UInt8) (d : Int) (q : List (Int × Int)) (e : TS q .nils) : (xCall Try.prog tab 400 4 56 [opW ⟨i, j, k, l, t, c, 4, m, .ofNat 0, g, n, d, false, x, ⟨q, .nils, e⟩⟩] [] [] 0).map (·.1) = some (opW (partsS ⟨i, j, k, l, t, c, 4, m, .ofNat 0, g, n, d, false, x, ⟨q, .nils, e⟩⟩)) := by kernel_rfl
theorem pt_31n (i j k l t : Int) (c m g n x : List UInt8) (d : Int) (h : Bool) (q : List (Int × Int)) (e : TS q .nils) : (xCall Try.prog tab 400 4 56 [opW ⟨i, j, k, l, t, c, 3, m, .ofNat 1, g, n, d, h, x, ⟨q, .nils, e⟩⟩] [] [] 0).map (·.1) = some (opW (partsS ⟨i, j, k, l, t, c, 3, m, .ofNat 1, g, n, d, h, x, ⟨q, .nils, e⟩⟩)) := by kernel_rfl
theorem pt_41tn (i j k l t : Int) (c m g n x : List UInt8) (d : Int) (q : List (Int × Int)) (e : TS q .nils) : (xCall Try.prog tab 400 4 56 [opW ⟨i, j, k, l, t, c, 4, m, .ofNat 1, g, n, d, true, x, ⟨q, .nils, e⟩⟩] [] [] 0).map (·.1) = some (opW (partsS ⟨i, j, k, l, t, c, 4, m, .ofNat 1, g, n, d, true, x, ⟨q, .nils, e⟩⟩)) := by kernel_rfl
theorem pt_41fn (i j k l t : Int) (c m g n x : List UInt8) (d : Int) (q : List (Int × Int)) (e : TS q .nils) : (xCall Try.prog tab 400 4 56 [opW ⟨i, j, k, l, t, c, 4, m, .ofNat 1, g, n, d, false, x, ⟨q, .nils, e⟩⟩] [] [] 0).map (·.1) = some (opW (partsS ⟨i, j, k, l, t, c, 4, m, .ofNat 1, g, n, d, false, x, ⟨q, .nils, e⟩⟩)) := by kernel_rfl
theorem pt_32n (i j k l t : Int) (c m g n x : List UInt8) (d : Int) (z : Nat) (h : Bool) (q : List (Int × Int)) (e : TS q .nils) : (xCall Try.prog tab 400 4 56 [opW ⟨i, j, k, l, t, c, 3, m, .ofNat (z + 2), g, n, d, h, x, ⟨q, .nils, e⟩⟩] [] [] 0).map (·.1) = some (opW (partsS ⟨i, j, k, l, t, c, 3, m, .ofNat (z + 2), g, n, d, h, x, ⟨q, .nils, e⟩⟩)) := by kernel_rfl
theorem pt_42tn (i j k l t : Int) (c m g n x : List UInt8) (d : Int) (z : Nat) (q : List (Int × Int)) (e : TS q .nils) : (xCall Try.prog tab 400 4 56 [opW ⟨i, j, k, l, t, c, 4, m, .ofNat (z + 2), g, n, d, true, x, ⟨q, .nils, e⟩⟩] [] [] 0).map (·.1) = some (opW (partsS ⟨i, j, k, l, t, c, 4, m, .ofNat (z + 2), g, n, d, true, x, ⟨q, .nils, e⟩⟩)) := by kernel_rfl
theorem pt_42fn (i j k l t : Int) (c m g n x : List UInt8) (d : Int) (z : Nat) (q : List (Int × Int)) (e : TS q .nils) : (xCall Try.prog tab 400 4 56 [opW ⟨i, j, k, l, t, c, 4, m, .ofNat (z + 2), g, n, d, false, x, ⟨q, .nils, e⟩⟩] [] [] 0).map (·.1) = some (opW (partsS ⟨i, j, k, l, t, c, 4, m, .ofNat (z + 2), g, n, d, false, x, ⟨q, .nils, e⟩⟩)) := by kernel_rfl
theorem pt_3mn (i j k l t : Int) (c m g n x : List UInt8) (d : Int) (z : Nat) (h : Bool) (q : List (Int × Int)) (e : TS q .nils) : (xCall Try.prog tab 400 4 56 [opW ⟨i, j, k, l, t, c, 3, m, .negSucc z, g, n, d, h, x, ⟨q, .nils, e⟩⟩] [] [] 0).map (·.1) = some (opW (partsS ⟨i, j, k, l, t, c, 3, m, .negSucc z, g, n, d, h, x, ⟨q, .nils, e⟩⟩)) := by kernel_rfl
theorem pt_4mtn (i j k l t : Int) (c m g n x : List UInt8) (d : Int) (z : Nat) (q : List (Int × Int)) (e : TS q .nils) : (xCall Try.prog tab 400 4 56 [opW ⟨i, j, k, l, t, c, 4, m, .negSucc z, g, n, d, true, x, ⟨q, .nils, e⟩⟩] [] [] 0).map (·.1) = some (opW (partsS ⟨i, j, k, l, t, c, 4, m, .negSucc z, g, n, d, true, x, ⟨q, .nils, e⟩⟩)) := by kernel_rfl
theorem pt_4mfn (i j k l t : Int) (c m g n x : List UInt8) (d : Int) (z : Nat) (q : List (Int × Int)) (e : TS q .nils) : (xCall Try.prog tab 400 4 56 [opW ⟨i, j, k, l, t, c, 4, m, .negSucc z, g, n, d, false, x, ⟨q, .nils, e⟩⟩] [] [] 0).map (·.1) = some (opW (partsS ⟨i, j, k, l, t, c, 4, m, .negSucc z, g, n, d, false, x, ⟨q, .nils, e⟩⟩)) := by kernel_rfl
theorem pt_1q (i j k l t : Int) (c m g n x : List UInt8) (d : Int) (s : Int) (h : Bool) (q : List (Int × Int)) (b : Bool) (e : TS q (.slice 2 (q.map tagE) b none)) : (xCall Try.prog tab 400 4 56 [opW ⟨i, j, k, l, t, c, 1, m, s, g, n, d, h, x, ⟨q, .slice 2 (q.map tagE) b none, e⟩⟩] [] [] 0).map (·.1) = some (opW (partsS ⟨i, j, k, l, t, c, 1, m, s, g, n, d, h, x, ⟨q, .slice 2 (q.map tagE) b none, e⟩⟩)) := by kernel_rfl
theorem pt_2q (i j k l t : Int) (c m g n x : List UInt8) (d : Int) (s : Int) (h : Bool) (q : List (Int × Int)) (b : Bool) (e : TS q (.slice 2 (q.map tagE) b none)) : (xCall Try.prog tab 400 4 56 [opW ⟨i, j, k, l, t, c, 2, m, s, g, n, d, h, x, ⟨q, .slice 2 (q.map tagE) b none, e⟩⟩] [] [] 0).map (·.1) = some (opW (partsS ⟨i, j, k, l, t, c, 2, m, s, g, n, d, h, x, ⟨q, .slice 2 (q.map tagE) b none, e⟩⟩)) := by kernel_rfl
theorem pt_5q (i j k l t : Int) (c m g n x : List UInt8) (d : Int) (s : Int) (h : Bool) (q : List (Int × Int)) (b : Bool) (e : TS q (.slice 2 (q.map tagE) b none)) : (xCall Try.prog tab 400 4 56 [opW ⟨i, j, k, l, t, c, 5, m, s, g, n, d, h, x, ⟨q, .slice 2 (q.map tagE) b none, e⟩⟩] [] [] 0).map (·.1) = some (opW (partsS ⟨i, j, k, l, t, c, 5, m, s, g, n, d, h, x, ⟨q, .slice 2 (q.map tagE) b none, e⟩⟩)) := by kernel_rfl
theorem pt_30q (i j k l t : Int) (c m g n x : List UInt8) (d : Int) (h : Bool) (q : List (Int × Int)) (b : Bool) (e : TS q (.slice 2 (q.map tagE) b none)) : (xCall Try.prog tab 400 4 56 [opW ⟨i, j, k, l, t, c, 3, m, .ofNat 0, g, n, d, h, x, ⟨q, .slice 2 (q.map tagE) b none, e⟩⟩] [] [] 0).map (·.1) = some (opW (partsS ⟨i, j, k, l, t, c, 3, m, .ofNat 0, g, n, d, h, x, ⟨q, .slice 2 (q.map tagE) b none, e⟩⟩)) := by kernel_rfl
theorem pt_40tq (i j k l t : Int) (c m g n x : List UInt8) (d : Int) (q : List (Int × Int)) (b : Bool) (e : TS q (.slice 2 (q.map tagE) b none)) : (xCall Try.prog tab 400 4 56 [opW ⟨i, j, k, l, t, c, 4, m, .ofNat 0, g, n, d, true, x, ⟨q, .slice 2 (q.map tagE) b none, e⟩⟩] [] [] 0).map (·.1) = some (opW (partsS ⟨i, j, k, l, t, c, 4, m, .ofNat 0, g, n, d, true, x, ⟨q, .slice 2 (q.map tagE) b none, e⟩⟩)) := by kernel_rfl
theorem pt_40fq (i j k l t : Int) (c m g n x : List UInt8) (d : Int) (q : List (Int × Int)) (b : Bool) (e : TS q (.slice 2 (q.map tagE) b none)) : (xCall Try.prog tab 400 4 56 [opW ⟨i, j, k, l, t, c, 4, m, .ofNat 0, g, n, d, false, x, ⟨q, .slice 2 (q.map tagE) b none, e⟩⟩] [] [] 0).map (·.1) = some (opW (partsS ⟨i, j, k, l, t, c, 4, m, .ofNat 0, g, n, d, false, x, ⟨q, .slice 2 (q.map tagE) b none, e⟩⟩)) := by kernel_rfl
theorem pt_31q (i j k l t : Int) (c m g n x : List UInt8) (d : Int) (h : Bool) (q : List (Int × Int)) (b : Bool) (e : TS q (.slice 2 (q.map tagE) b none)) : (xCall Try.prog tab 400 4 56 [opW ⟨i, j, k, l, t, c, 3, m, .ofNat 1, g, n, d, h, x, ⟨q, .slice 2 (q.map tagE) b none, e⟩⟩] [] [] 0).map (·.1) = some (opW (partsS ⟨i, j, k, l, t, c, 3, m, .ofNat 1, g, n, d, h, x, ⟨q, .slice 2 (q.map tagE) b none, e⟩⟩)) := by kernel_rfl
theorem pt_41tq (i j k l t : Int) (c m g n x : List UInt8) (d : Int) (q : List (Int × Int)) (b : Bool) (e : TS q (.slice 2 (q.map tagE) b none)) : (xCall Try.prog tab 400 4 56 [opW ⟨i, j, k, l, t, c, 4, m, .ofNat 1, g, n, d, true, x, ⟨q, .slice 2 (q.map tagE) b none, e⟩⟩] [] [] 0).map (·.1) = some (opW (partsS ⟨i, j, k, l, t, c, 4, m, .ofNat 1, g, n, d, true, x, ⟨q, .slice 2 (q.map tagE) b none, e⟩⟩)) := by kernel_rfl
theorem pt_41fq (i j k l t : Int) (c m g n x : List UInt8) (d : Int) (q : List (Int × Int)) (b : Bool) (e : TS q (.slice 2 (q.map tagE) b none)) : (xCall Try.prog tab 400 4 56 [opW ⟨i, j, k, l, t, c, 4, m, .ofNat 1, g, n, d, false, x, ⟨q, .slice 2 (q.map tagE) b none, e⟩⟩] [] [] 0).map (·.1) = some (opW (partsS ⟨i, j, k, l, t, c, 4, m, .ofNat 1, g, n, d, false, x, ⟨q, .slice 2 (q.map tagE) b none, e⟩⟩)) := by kernel_rfl
theorem pt_32q (i j k l t : Int) (c m g n x : List UInt8) (d : Int) (z : Nat) (h : Bool) (q : List (Int × Int)) (b : Bool) (e : TS q (.slice 2 (q.map tagE) b none)) : (xCall Try.prog tab 400 4 56 [opW ⟨i, j, k, l, t, c, 3, m, .ofNat (z + 2), g, n, d, h, x, ⟨q, .slice 2 (q.map tagE) b none, e⟩⟩] [] [] 0).map (·.1) = some (opW (partsS ⟨i, j, k, l, t, c, 3, m, .ofNat (z + 2), g, n, d, h, x, ⟨q, .slice 2 (q.map tagE) b none, e⟩⟩)) := by kernel_rfl
theorem pt_42tq (i j k l t : Int) (c m g n x : List UInt8) (d : Int) (z : Nat) (q : List (Int × Int)) (b : Bool) (e : TS q (.slice 2 (q.map tagE) b none)) : (xCall Try.prog tab 400 4 56 [opW ⟨i, j, k, l, t, c, 4, m, .ofNat (z + 2), g, n, d, true, x, ⟨q, .slice 2 (q.map tagE) b none, e⟩⟩] [] [] 0).map (·.1) = some (opW (partsS ⟨i, j, k, l, t, c, 4, m, .ofNat (z + 2), g, n, d, true, x, ⟨q, .slice 2 (q.map tagE) b none, e⟩⟩)) := by kernel_rfl
theorem pt_42fq (i j k l t : Int) (c m g n x : List UInt8) (d : Int) (z : Nat) (q : List (Int × Int)) (b : Bool) (e : TS q (.slice 2 (q.map tagE) b none)) : (xCall Try.prog tab 400 4 56 [opW ⟨i, j, k, l, t, c, 4, m, .ofNat (z + 2), g, n, d, false, x, ⟨q, .slice 2 (q.map tagE) b none, e⟩⟩] [] [] 0).map (·.1) = some (opW (partsS ⟨i, j, k, l, t, c, 4, m, .ofNat (z + 2), g, n, d, false, x, ⟨q, .slice 2 (q.map tagE) b none, e⟩⟩)) := by kernel_rfl
theorem pt_3mq (i j k l t : Int) (c m g n x : List UInt8) (d : Int) (z : Nat) (h : Bool) (q : List (Int × Int)) (b : Bool) (e : TS q (.slice 2 (q.map tagE) b none)) : (xCall Try.prog tab 400 4 56 [opW ⟨i, j, k, l, t, c, 3, m, .negSucc z, g, n, d, h, x, ⟨q, .slice 2 (q.map tagE) b none, e⟩⟩] [] [] 0).map (·.1) = some (opW (partsS ⟨i, j, k, l, t, c, 3, m, .negSucc z, g, n, d, h, x, ⟨q, .slice 2 (q.map tagE) b none, e⟩⟩)) := by kernel_rfl
theorem pt_4mtq (i j k l t : Int) (c m g n x : List UInt8) (d : Int) (z : Nat) (q : List (Int × Int)) (b : Bool) (e : TS q (.slice 2 (q.map tagE) b none)) : (xCall Try.prog tab 400 4 56 [opW ⟨i, j, k, l, t, c, 4, m, .negSucc z, g, n, d, true, x, ⟨q, .slice 2 (q.map tagE) b none, e⟩⟩] [] [] 0).map (·.1) = some (opW (partsS ⟨i, j, k, l, t, c, 4, m, .negSucc z, g, n, d, true, x, ⟨q, .slice 2 (q.map tagE) b none, e⟩⟩)) := by kernel_rfl
theorem pt_4mfq (i j k l t : Int) (c m g n x : List UInt8) (d : Int) (z : Nat) (q : List (Int × Int)) (b : Bool) (e : TS q (.slice 2 (q.map tagE) b none)) : (xCall Try.prog tab 400 4 56 [opW ⟨i, j, k, l, t, c, 4, m, .negSucc z, g, n, d, false, x, ⟨q, .slice 2 (q.map tagE) b none, e⟩⟩] [] [] 0).map (·.1) = some (opW (partsS ⟨i, j, k, l, t, c, 4, m, .negSucc z, g, n, d, false, x, ⟨q, .slice 2 (q.map tagE) b none, e⟩⟩)) := by kernel_rfl
theorem parts_run (o : OpS) (h1 : 1 ≤ o.kind) (h5 : o.kind ≤ 5) : (xCall Try.prog tab 400 4 56 [opW o] [] [] 0).map (·.1) = some (opW (partsS o)) := by
  obtain ⟨i,j,k,l,t,c,kd,m,s,g,n,d,h,x,p⟩ := o
  simp only at h1 h5
  obtain ⟨q,v,e⟩ := p
  have hv : v = .nils ∨ ∃ b,v = .slice 2 (q.map tagE) b none := by
    rcases e with ⟨_,h⟩ | ⟨b,h⟩
    · exact .inl h
    · exact .inr ⟨b,h⟩
  have hk : kd = 1 ∨ kd = 2 ∨ kd = 3 ∨ kd = 4 ∨ kd = 5 := by omega
  rcases hk with rfl | rfl | rfl | rfl | rfl
  · rcases hv with rfl | ⟨b,rfl⟩
    · exact pt_1n ..
    · exact pt_1q ..
  · rcases hv with rfl | ⟨b,rfl⟩
    · exact pt_2n ..
    · exact pt_2q ..
  · rcases s with ((_ | _ | z) | z) <;> rcases hv with rfl | ⟨b,rfl⟩
    · exact pt_30n ..
    · exact pt_30q ..
    · exact pt_31n ..
    · exact pt_31q ..
    · exact pt_32n ..
    · exact pt_32q ..
    · exact pt_3mn ..
    · exact pt_3mq ..
  · rcases s with ((_ | _ | z) | z) <;> cases h <;> rcases hv with rfl | ⟨b,rfl⟩
    · exact pt_40fn ..
    · exact pt_40fq ..
    · exact pt_40tn ..
    · exact pt_40tq ..
    · exact pt_41fn ..
    · exact pt_41fq ..
    · exact pt_41tn ..
    · exact pt_41tq ..
    · exact pt_42fn ..
    · exact pt_42fq ..
    · exact pt_42tn ..
    · exact pt_42tq ..
    · exact pt_4mfn ..
    · exact pt_4mfq ..
    · exact pt_4mtn ..
    · exact pt_4mtq ..
  · rcases hv with rfl | ⟨b,rfl⟩
    · exact pt_5n ..
    · exact pt_5q ..
theorem c_parts (o : OpS) (h1 : 1 ≤ o.kind) (h5 : o.kind ≤ 5) : VC Try.prog 56 [opW o] [] (fun r _ => r = opW (partsS o)) :=
  VC_closed (tab := tab) 400 4 mixed names tabOk (by simp [op_noP]) (by simp [op_bare]) (op_noP _) (op_bare _) (parts_run o h1 h5)
end Go.PV
