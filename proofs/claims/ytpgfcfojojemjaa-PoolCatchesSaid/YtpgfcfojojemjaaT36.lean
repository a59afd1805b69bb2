/- Lists of ops as arguments: HeavyOps, SameOps. -/
import Derived.Test.YtpgfcfojojemjaaT35
namespace Go.PV
open Go.Proofs
set_option linter.unusedVariables false
set_option linter.unusedSimpArgs false
set_option maxRecDepth 10000
set_option maxHeartbeats 1000000

theorem PS.bare {l : List OpS} {c : V} (h : PS l c) : c.bare = c := by rcases h with ⟨rfl, rfl⟩ | ⟨ex, rfl⟩ <;> rfl
theorem PS.noP {l : List OpS} {c : V} (h : PS l c) : c.noP = true := by rcases h with ⟨rfl, rfl⟩ | ⟨ex, rfl⟩ <;> rfl
theorem PS.toks {l : List OpS} {c : V} (h : PS l c) : c.toks = [] := by rcases h with ⟨rfl, rfl⟩ | ⟨ex, rfl⟩ <;> rfl
theorem PS.len {l : List OpS} {c : V} (h : PS l c) : lenV Try.prog 52 c = some (.int .i64 l.length) := by
  rcases h with ⟨rfl,rfl⟩ | ⟨ex,rfl⟩ <;> simp [lenV,ti52]
theorem opsV_PS (l : List OpS) : PS l (opsV l) := by
  unfold opsV
  split
  · rename_i h; exact .inl ⟨List.isEmpty_iff.1 h,rfl⟩
  · exact .inr ⟨false,rfl⟩
def heavyOps (l : List OpS) (m : Int) : Bool := decide (m < (l.length : Int)) || l.any heavyB
theorem c_punnet_punnetref22_HeavyOps (l : List OpS) (x : V) (hx : PS l x) (m : Int) (hl : l.length ≤ maxLen) : VC Try.prog 33 [x, .int .i64 m] [] (fun r _ => r = .bool (heavyOps l m)) := by
  refine VC_enter (nt := 21) (rs := [.tmp 4]) (ow := []) (m := 0) Try.func33 rfl (by rfl) rfl rfl (by simp) (by simp only [ownOf,List.flatMap_cons,List.flatMap_nil,hx.toks,List.append_nil]; rfl) rfl (fun n => ?_)
  simp only [zipT,Nat.zero_add]
  have hx1 := True.intro
  have hi := True.intro
  have hw := True.intro
  refine WC_seqR (fun N1 hN1 hD1 => ?_)
  simp only [sS,↓sT,if_true,if_false,Nat.reduceLT,Nat.reduceEqDiff,↓sO,↓WOps_g,sG,opV,loudV,cellsOf,strOp,evL,Nat.reduceAdd,beq_self_eq_true,bne_self_eq_false,Int.reduceBEq,Int.reduceBNe,hx.len,hx1,hi,hw,op_load,gt_iff_lt,ti3,ti49,decide_true,decide_false]
  refine hN1 _ ?_; try clear hN1 hD1 N1
  refine WC_seqN (fun N2 hN2 hD2 => ?_)
  refine WC_seqR (fun N3 hN3 hD3 => ?_)
  simp only [sS,↓sT,if_true,if_false,Nat.reduceLT,Nat.reduceEqDiff,↓sO,↓WOps_g,sG,opV,loudV,cellsOf,strOp,evL,Nat.reduceAdd,beq_self_eq_true,bne_self_eq_false,Int.reduceBEq,Int.reduceBNe,ti52,hx.len,hx1,hi,hw,op_load,gt_iff_lt,ti3,ti49,decide_true,decide_false]
  refine hN3 _ ?_; try clear hN3 hD3 N3
  refine WC_condE ?_
  simp only [sS,↓sT,if_true,if_false,Nat.reduceLT,Nat.reduceEqDiff,↓stepC_bool]
  refine ⟨fun hb4 => ?_,fun hb4 => ?_⟩
  · refine WC_seqR (fun N5 hN5 hD5 => ?_)
    simp only [sS,↓sT,if_true,if_false,Nat.reduceLT,Nat.reduceEqDiff,↓sO,↓WOps_g,sG,opV,loudV,cellsOf,strOp,evL,Nat.reduceAdd,beq_self_eq_true,bne_self_eq_false,Int.reduceBEq,Int.reduceBNe,hx.len,hx1,hi,hw,op_load,gt_iff_lt,ti3,ti49,decide_true,decide_false]
    refine hN5 _ ?_; try clear hN5 hD5 N5
    refine WC_ret ?_; (try simp only [Exit.after,Exit.out]); refine Kend_ret (by simp only [resOf,resL,resV,mkS_get,slots_get,cellsOf,op_load,ti3,ti52,ti49,sS,↓sT,if_true,if_false,Nat.reduceLT,Nat.reduceEqDiff]; rfl) (by first | rfl | (simp only [op_load,ti3,ti52,ti49]; done) | (simp only [op_load,ti3,ti52,ti49,okV,ok1,okC,okP,List.all_cons,List.all_nil,Bool.and_true]; done)) ?_
    clear hN2 hD2 N2
    first
    | (rw [keep_bool,heavyOps,hb4]; rfl)
    | (rw [keep_bool,hspec]; congr 1; symm; exact List.any_eq_true.2 ⟨o,List.mem_of_getElem? ho,hb13⟩)
    | (rw [keep_bool,hspec]; congr 1
       have ht : t = l.length := by have := of_decide_eq_false hb10; omega
       rw [ht,List.take_length] at hh; exact hh.symm)
  · refine WC_skip ?_
    refine hN2 _ ?_; try clear hN2 hD2 N2
    refine WC_seqN (fun N6 hN6 hD6 => ?_)
    refine WC_seqR (fun N7 hN7 hD7 => ?_)
    simp only [sS,↓sT,if_true,if_false,Nat.reduceLT,Nat.reduceEqDiff,↓sO,↓WOps_g,sG,opV,loudV,cellsOf,strOp,evL,Nat.reduceAdd,beq_self_eq_true,bne_self_eq_false,Int.reduceBEq,Int.reduceBNe,hx.len,hx1,hi,hw,op_load,gt_iff_lt,ti3,ti49,decide_true,decide_false]
    refine hN7 _ ?_; try clear hN7 hD7 N7
    refine WC_block ?_
    have hm : ¬ (m < (l.length : Int)) := of_decide_eq_false hb4
    have hspec : heavyOps l m = l.any heavyB := by rw [heavyOps,decide_eq_false hm,Bool.false_or]
    refine WC_loopG (σ := Nat) (fun t s => ∃ ps,s = ⟨mkS 21 ps, [], [],n⟩ ∧ Has ps [(0,x),(5, .int .i64 t)] ∧ t ≤ l.length ∧ (l.take t).any heavyB = false) (fun t => l.length - t) 0 ?_ (fun t s hI => ?_)
    · exact ⟨_,rfl,⟨rfl,rfl,trivial⟩,Nat.zero_le _,rfl⟩
    obtain ⟨ps,rfl,hps,htl,hh⟩ := hI
    refine WC_has hps ?_; clear hps ps
    refine WC_seqN (fun N8 hN8 hD8 => ?_)
    refine WC_seqR (fun N9 hN9 hD9 => ?_)
    simp only [sS,↓sT,if_true,if_false,Nat.reduceLT,Nat.reduceEqDiff,↓sO,↓WOps_g,sG,opV,loudV,cellsOf,strOp,evL,Nat.reduceAdd,beq_self_eq_true,bne_self_eq_false,Int.reduceBEq,Int.reduceBNe,ti52,hx.len,hx1,hi,hw,op_load,gt_iff_lt,ti3,ti49,decide_true,decide_false]
    refine hN9 _ ?_; try clear hN9 hD9 N9
    refine WC_condE ?_
    simp only [sS,↓sT,if_true,if_false,Nat.reduceLT,Nat.reduceEqDiff,↓stepC_bool]
    refine ⟨fun hb10 => ?_,fun hb10 => ?_⟩
    · have ht : t < l.length := by have := of_decide_eq_true hb10; omega
      obtain ⟨o,ho⟩ : ∃ o,l[t]? = some o := ⟨_,List.getElem?_eq_getElem ht⟩
      have hi := hx.ia ho
      have hw : IntKind.i64.wrap ((t : Int) + 1) = (t : Int) + 1 := wrapI (by unfold maxLen at hl; omega) (by unfold maxLen at hl; omega)
      refine WC_skip ?_
      refine hN8 _ ?_; try clear hN8 hD8 N8
      refine WC_seqN (fun N11 hN11 hD11 => ?_)
      refine WC_block ?_
      refine WC_seqR (fun N12 hN12 hD12 => ?_)
      simp only [sS,↓sT,if_true,if_false,Nat.reduceLT,Nat.reduceEqDiff,↓sO,↓WOps_g,sG,opV,loudV,cellsOf,strOp,evL,Nat.reduceAdd,beq_self_eq_true,bne_self_eq_false,Int.reduceBEq,Int.reduceBNe,ti52,ti49,hx.len,hx1,hi,hw,op_load,gt_iff_lt,ti3,ti49,decide_true,decide_false]
      refine WOps_callP (c_punnet_punnetref20_Heavy o) (by simp only [ev_func]) (by simp only [evL,sS,↓sT,if_true,if_false,Nat.reduceLT,Nat.reduceEqDiff]; rfl) (by first | rfl | (simp only [List.map,op_bare]; done) | (simp only [List.map,op_bare]; exact rfl)) (by first | rfl | simp [op_noP]) (by first | rfl | simp [op_noP]) rfl ?_
      simp only [sS,↓sT,if_true,if_false,Nat.reduceLT,Nat.reduceEqDiff,↓sO,↓WOps_g,sG,opV,loudV,cellsOf,strOp,evL,Nat.reduceAdd,beq_self_eq_true,bne_self_eq_false,Int.reduceBEq,Int.reduceBNe,ti52,ti49,hx.len,hx1,hi,hw,op_load,gt_iff_lt,ti3,ti49,decide_true,decide_false]
      refine hN12 _ ?_; try clear hN12 hD12 N12
      refine WC_condE ?_
      simp only [sS,↓sT,if_true,if_false,Nat.reduceLT,Nat.reduceEqDiff,↓stepC_bool]
      refine ⟨fun hb13 => ?_,fun hb13 => ?_⟩
      · refine WC_seqR (fun N14 hN14 hD14 => ?_)
        simp only [sS,↓sT,if_true,if_false,Nat.reduceLT,Nat.reduceEqDiff,↓sO,↓WOps_g,sG,opV,loudV,cellsOf,strOp,evL,Nat.reduceAdd,beq_self_eq_true,bne_self_eq_false,Int.reduceBEq,Int.reduceBNe,hx.len,hx1,hi,hw,op_load,gt_iff_lt,ti3,ti49,decide_true,decide_false]
        refine hN14 _ ?_; try clear hN14 hD14 N14
        refine WC_ret ?_; (try simp only [Exit.after,Exit.out]); refine Kend_ret (by simp only [resOf,resL,resV,mkS_get,slots_get,cellsOf,op_load,ti3,ti52,ti49,sS,↓sT,if_true,if_false,Nat.reduceLT,Nat.reduceEqDiff]; rfl) (by first | rfl | (simp only [op_load,ti3,ti52,ti49]; done) | (simp only [op_load,ti3,ti52,ti49,okV,ok1,okC,okP,List.all_cons,List.all_nil,Bool.and_true]; done)) ?_
        clear hN11 hD11 N11 hN6 hD6 N6
        first
        | (rw [keep_bool,heavyOps,hb4]; rfl)
        | (rw [keep_bool,hspec]; congr 1; symm; exact List.any_eq_true.2 ⟨o,List.mem_of_getElem? ho,hb13⟩)
        | (rw [keep_bool,hspec]; congr 1
           have ht : t = l.length := by have := of_decide_eq_false hb10; omega
           rw [ht,List.take_length] at hh; exact hh.symm)
      · refine WC_skip ?_
        refine hN11 _ ?_; try clear hN11 hD11 N11
        refine WC_regN (fun N15 hN15 => ?_)
        simp only [sS,↓sT,if_true,if_false,Nat.reduceLT,Nat.reduceEqDiff,↓sO,↓WOps_g,sG,opV,loudV,cellsOf,strOp,evL,Nat.reduceAdd,beq_self_eq_true,bne_self_eq_false,Int.reduceBEq,Int.reduceBNe,hx.len,hx1,hi,hw,op_load,gt_iff_lt,ti3,ti49,decide_true,decide_false]
        refine hN15 _ ?_; try clear hN15 N15
        refine ⟨t + 1,⟨_,rfl,⟨rfl,rfl,trivial⟩,ht, ?_⟩,by omega⟩
        rw [List.take_add_one,ho,Option.toList_some,List.any_append,hh,Bool.false_or,List.any_cons,List.any_nil,Bool.or_false]
        simpa using hb13
    · refine WC_exit ?_
      refine hN6 _ ?_; try clear hN6 hD6 N6
      refine WC_seqR (fun N16 hN16 hD16 => ?_)
      simp only [sS,↓sT,if_true,if_false,Nat.reduceLT,Nat.reduceEqDiff,↓sO,↓WOps_g,sG,opV,loudV,cellsOf,strOp,evL,Nat.reduceAdd,beq_self_eq_true,bne_self_eq_false,Int.reduceBEq,Int.reduceBNe,hx.len,hx1,hi,hw,op_load,gt_iff_lt,ti3,ti49,decide_true,decide_false]
      refine hN16 _ ?_; try clear hN16 hD16 N16
      refine WC_ret ?_; (try simp only [Exit.after,Exit.out]); refine Kend_ret (by simp only [resOf,resL,resV,mkS_get,slots_get,cellsOf,op_load,ti3,ti52,ti49,sS,↓sT,if_true,if_false,Nat.reduceLT,Nat.reduceEqDiff]; rfl) (by first | rfl | (simp only [op_load,ti3,ti52,ti49]; done) | (simp only [op_load,ti3,ti52,ti49,okV,ok1,okC,okP,List.all_cons,List.all_nil,Bool.and_true]; done)) ?_
      clear hN8 hD8 N8
      first
      | (rw [keep_bool,heavyOps,hb4]; rfl)
      | (rw [keep_bool,hspec]; congr 1; symm; exact List.any_eq_true.2 ⟨o,List.mem_of_getElem? ho,hb13⟩)
      | (rw [keep_bool,hspec]; congr 1
         have ht : t = l.length := by have := of_decide_eq_false hb10; omega
         rw [ht,List.take_length] at hh; exact hh.symm)
def sameOps (a b : List OpS) : Bool := (a.length == b.length) && (List.zipWith sameO a b).all id
theorem sameO_refl (o : OpS) : sameO o o = true := by simp [sameO]
theorem sameOps_refl (a : List OpS) : sameOps a a = true := by
  simp only [sameOps,beq_self_eq_true,Bool.true_and,List.all_eq_true]
  intro b hb
  rw [List.zipWith_self] at hb
  obtain ⟨o,_,rfl⟩ := List.mem_map.1 hb
  exact sameO_refl o
theorem c_punnet_punnetref20_SameOps (a b : List OpS) (x y : V) (hx : PS a x) (hy : PS b y) (hl : a.length ≤ maxLen) (hd : ∀ o ∈ a, o.dropsL.length ≤ 4611686018427387904) : VC Try.prog 34 [x, y] [] (fun r _ => r = .bool (sameOps a b)) := by
  refine VC_enter (nt := 27) (rs := [.tmp 4]) (ow := []) (m := 0) Try.func34 rfl (by rfl) rfl rfl (by simp) (by simp only [ownOf,List.flatMap_cons,List.flatMap_nil,hx.toks,hy.toks,List.append_nil]) rfl (fun n => ?_)
  simp only [zipT,Nat.zero_add]
  have hx1 := True.intro
  have hi := True.intro
  have hj := True.intro
  have hw := True.intro
  refine WC_seqR (fun N1 hN1 hD1 => ?_)
  simp only [sS,↓sT,if_true,if_false,Nat.reduceLT,Nat.reduceEqDiff,↓sO,↓WOps_g,sG,opV,loudV,cellsOf,strOp,evL,Nat.reduceAdd,beq_self_eq_true,bne_self_eq_false,Int.reduceBEq,Int.reduceBNe,hx.len,hy.len,hx1,hi,hj,hw,op_load,ti3,ti49,decide_true,decide_false]
  refine hN1 _ ?_; try clear hN1 hD1 N1
  refine WC_seqN (fun N2 hN2 hD2 => ?_)
  refine WC_seqR (fun N3 hN3 hD3 => ?_)
  simp only [sS,↓sT,if_true,if_false,Nat.reduceLT,Nat.reduceEqDiff,↓sO,↓WOps_g,sG,opV,loudV,cellsOf,strOp,evL,Nat.reduceAdd,beq_self_eq_true,bne_self_eq_false,Int.reduceBEq,Int.reduceBNe,ti52,hx.len,hy.len,hx1,hi,hj,hw,op_load,ti3,ti49,decide_true,decide_false]
  refine hN3 _ ?_; try clear hN3 hD3 N3
  refine WC_condE ?_
  simp only [sS,↓sT,if_true,if_false,Nat.reduceLT,Nat.reduceEqDiff,↓stepC_bool]
  refine ⟨fun hb4 => ?_,fun hb4 => ?_⟩
  · refine WC_seqR (fun N5 hN5 hD5 => ?_)
    simp only [sS,↓sT,if_true,if_false,Nat.reduceLT,Nat.reduceEqDiff,↓sO,↓WOps_g,sG,opV,loudV,cellsOf,strOp,evL,Nat.reduceAdd,beq_self_eq_true,bne_self_eq_false,Int.reduceBEq,Int.reduceBNe,hx.len,hy.len,hx1,hi,hj,hw,op_load,ti3,ti49,decide_true,decide_false]
    refine hN5 _ ?_; try clear hN5 hD5 N5
    refine WC_ret ?_; (try simp only [Exit.after,Exit.out]); refine Kend_ret (by simp only [resOf,resL,resV,mkS_get,slots_get,cellsOf,op_load,ti3,ti52,ti49,sS,↓sT,if_true,if_false,Nat.reduceLT,Nat.reduceEqDiff]; rfl) (by first | rfl | (simp only [op_load,ti3,ti52,ti49]; done) | (simp only [op_load,ti3,ti52,ti49,okV,ok1,okC,okP,List.all_cons,List.all_nil,Bool.and_true]; done)) ?_
    clear hN2 hD2 N2
    first
    | (rw [keep_bool]; congr 1; symm
       have h0 : (a.length == b.length) = false := by simp at hb4 ⊢; omega
       rw [sameOps,h0]; rfl)
    | (rw [keep_bool]; congr 1; symm
       rw [sameOps,Bool.and_eq_false_iff]; right; rw [List.all_eq_false]
       exact ⟨_,List.mem_of_getElem? hz,by simpa using hb13⟩)
    | (rw [keep_bool]; congr 1; symm
       have ht : t = a.length := by have := of_decide_eq_false hb10; omega
       rw [List.take_of_length_le (by rw [List.length_zipWith]; omega)] at hh
       rw [sameOps,hlen,hh]; simp)
  · refine WC_skip ?_
    refine hN2 _ ?_; try clear hN2 hD2 N2
    refine WC_seqN (fun N6 hN6 hD6 => ?_)
    refine WC_seqR (fun N7 hN7 hD7 => ?_)
    simp only [sS,↓sT,if_true,if_false,Nat.reduceLT,Nat.reduceEqDiff,↓sO,↓WOps_g,sG,opV,loudV,cellsOf,strOp,evL,Nat.reduceAdd,beq_self_eq_true,bne_self_eq_false,Int.reduceBEq,Int.reduceBNe,hx.len,hy.len,hx1,hi,hj,hw,op_load,ti3,ti49,decide_true,decide_false]
    refine hN7 _ ?_; try clear hN7 hD7 N7
    refine WC_block ?_
    have hlen : a.length = b.length := by
      have h0 : ((a.length : Nat) : Int) = b.length := by simpa using hb4
      omega
    refine WC_loopG (σ := Nat) (fun t s => ∃ ps,s = ⟨mkS 27 ps, [], [],n⟩ ∧ Has ps [(0,x),(1,y),(5, .int .i64 t)] ∧ t ≤ a.length ∧ ((List.zipWith sameO a b).take t).all id = true) (fun t => a.length - t) 0 ?_ (fun t s hI => ?_)
    · exact ⟨_,rfl,⟨rfl,rfl,rfl,trivial⟩,Nat.zero_le _,rfl⟩
    obtain ⟨ps,rfl,hps,htl,hh⟩ := hI
    refine WC_has hps ?_; clear hps ps
    refine WC_seqN (fun N8 hN8 hD8 => ?_)
    refine WC_seqR (fun N9 hN9 hD9 => ?_)
    simp only [sS,↓sT,if_true,if_false,Nat.reduceLT,Nat.reduceEqDiff,↓sO,↓WOps_g,sG,opV,loudV,cellsOf,strOp,evL,Nat.reduceAdd,beq_self_eq_true,bne_self_eq_false,Int.reduceBEq,Int.reduceBNe,ti52,hx.len,hy.len,hx1,hi,hj,hw,op_load,ti3,ti49,decide_true,decide_false]
    refine hN9 _ ?_; try clear hN9 hD9 N9
    refine WC_condE ?_
    simp only [sS,↓sT,if_true,if_false,Nat.reduceLT,Nat.reduceEqDiff,↓stepC_bool]
    refine ⟨fun hb10 => ?_,fun hb10 => ?_⟩
    · have ht : t < a.length := by have := of_decide_eq_true hb10; omega
      obtain ⟨p,hp⟩ : ∃ o,a[t]? = some o := ⟨_,List.getElem?_eq_getElem ht⟩
      obtain ⟨q,hq⟩ : ∃ o,b[t]? = some o := ⟨_,List.getElem?_eq_getElem (hlen ▸ ht)⟩
      have hz : (List.zipWith sameO a b)[t]? = some (sameO p q) := by rw [List.getElem?_zipWith,hp,hq]
      have hi := hx.ia hp
      have hj := hy.ia hq
      have hw : IntKind.i64.wrap ((t : Int) + 1) = (t : Int) + 1 := wrapI (by unfold maxLen at hl; omega) (by unfold maxLen at hl; omega)
      refine WC_skip ?_
      refine hN8 _ ?_; try clear hN8 hD8 N8
      refine WC_seqN (fun N11 hN11 hD11 => ?_)
      refine WC_block ?_
      refine WC_seqD mixed [] [0,0,0,0,0,0,0,0,0,0] (by decide +kernel) (fun N12 hN12 hD12 => ?_)
      simp only [sS,↓sT,if_true,if_false,Nat.reduceLT,Nat.reduceEqDiff,↓sD,↓D_g,memOk,lets0,lets1,List.not_mem_nil,not_false_eq_true,true_and,and_true,sG,opV,loudV,cellsOf,strOp,evL,Nat.reduceAdd,beq_self_eq_true,bne_self_eq_false,Int.reduceBEq,Int.reduceBNe,ti52,ti49,hx.len,hy.len,hx1,hi,hj,hw,op_load,ti3,ti49,decide_true,decide_false]
      refine D_callP (c_punnet_punnetref20_Same p q (hd p (List.mem_of_getElem? hp))) (by simp only [ev_func]) (by simp only [evL,sS,↓sT,if_true,if_false,Nat.reduceLT,Nat.reduceEqDiff]; rfl) (by first | rfl | (simp only [List.map,op_bare]; done) | (simp only [List.map,op_bare]; exact rfl)) (by first | rfl | simp [op_noP]) (by first | rfl | simp [op_noP]) rfl ?_
      simp only [sS,↓sT,if_true,if_false,Nat.reduceLT,Nat.reduceEqDiff,↓sD,↓D_g,memOk,lets0,lets1,List.not_mem_nil,not_false_eq_true,true_and,and_true,sG,opV,loudV,cellsOf,strOp,evL,Nat.reduceAdd,beq_self_eq_true,bne_self_eq_false,Int.reduceBEq,Int.reduceBNe,ti52,ti49,hx.len,hy.len,hx1,hi,hj,hw,op_load,ti3,ti49,decide_true,decide_false]
      refine hN12 _ ?_; try clear hN12 hD12 N12
      refine WC_condE ?_
      simp only [sS,↓sT,if_true,if_false,Nat.reduceLT,Nat.reduceEqDiff,↓stepC_bool]
      refine ⟨fun hb13 => ?_,fun hb13 => ?_⟩
      · refine WC_seqR (fun N14 hN14 hD14 => ?_)
        simp only [sS,↓sT,if_true,if_false,Nat.reduceLT,Nat.reduceEqDiff,↓sO,↓WOps_g,sG,opV,loudV,cellsOf,strOp,evL,Nat.reduceAdd,beq_self_eq_true,bne_self_eq_false,Int.reduceBEq,Int.reduceBNe,hx.len,hy.len,hx1,hi,hj,hw,op_load,ti3,ti49,decide_true,decide_false]
        refine hN14 _ ?_; try clear hN14 hD14 N14
        refine WC_ret ?_; (try simp only [Exit.after,Exit.out]); refine Kend_ret (by simp only [resOf,resL,resV,mkS_get,slots_get,cellsOf,op_load,ti3,ti52,ti49,sS,↓sT,if_true,if_false,Nat.reduceLT,Nat.reduceEqDiff]; rfl) (by first | rfl | (simp only [op_load,ti3,ti52,ti49]; done) | (simp only [op_load,ti3,ti52,ti49,okV,ok1,okC,okP,List.all_cons,List.all_nil,Bool.and_true]; done)) ?_
        clear hN11 hD11 N11 hN6 hD6 N6
        first
        | (rw [keep_bool]; congr 1; symm
           have h0 : (a.length == b.length) = false := by simp at hb4 ⊢; omega
           rw [sameOps,h0]; rfl)
        | (rw [keep_bool]; congr 1; symm
           rw [sameOps,Bool.and_eq_false_iff]; right; rw [List.all_eq_false]
           exact ⟨_,List.mem_of_getElem? hz,by simpa using hb13⟩)
        | (rw [keep_bool]; congr 1; symm
           have ht : t = a.length := by have := of_decide_eq_false hb10; omega
           rw [List.take_of_length_le (by rw [List.length_zipWith]; omega)] at hh
           rw [sameOps,hlen,hh]; simp)
      · refine WC_skip ?_
        refine hN11 _ ?_; try clear hN11 hD11 N11
        refine WC_regN (fun N15 hN15 => ?_)
        simp only [sS,↓sT,if_true,if_false,Nat.reduceLT,Nat.reduceEqDiff,↓sO,↓WOps_g,sG,opV,loudV,cellsOf,strOp,evL,Nat.reduceAdd,beq_self_eq_true,bne_self_eq_false,Int.reduceBEq,Int.reduceBNe,hx.len,hy.len,hx1,hi,hj,hw,op_load,ti3,ti49,decide_true,decide_false]
        refine hN15 _ ?_; try clear hN15 N15
        refine ⟨t + 1,⟨_,rfl,⟨rfl,rfl,rfl,trivial⟩,ht, ?_⟩,by omega⟩
        rw [List.take_add_one,hz,Option.toList_some,List.all_append,hh,Bool.true_and,List.all_cons,List.all_nil,Bool.and_true]
        simpa using hb13
    · refine WC_exit ?_
      refine hN6 _ ?_; try clear hN6 hD6 N6
      refine WC_seqR (fun N16 hN16 hD16 => ?_)
      simp only [sS,↓sT,if_true,if_false,Nat.reduceLT,Nat.reduceEqDiff,↓sO,↓WOps_g,sG,opV,loudV,cellsOf,strOp,evL,Nat.reduceAdd,beq_self_eq_true,bne_self_eq_false,Int.reduceBEq,Int.reduceBNe,hx.len,hy.len,hx1,hi,hj,hw,op_load,ti3,ti49,decide_true,decide_false]
      refine hN16 _ ?_; try clear hN16 hD16 N16
      refine WC_ret ?_; (try simp only [Exit.after,Exit.out]); refine Kend_ret (by simp only [resOf,resL,resV,mkS_get,slots_get,cellsOf,op_load,ti3,ti52,ti49,sS,↓sT,if_true,if_false,Nat.reduceLT,Nat.reduceEqDiff]; rfl) (by first | rfl | (simp only [op_load,ti3,ti52,ti49]; done) | (simp only [op_load,ti3,ti52,ti49,okV,ok1,okC,okP,List.all_cons,List.all_nil,Bool.and_true]; done)) ?_
      clear hN8 hD8 N8
      first
      | (rw [keep_bool]; congr 1; symm
         have h0 : (a.length == b.length) = false := by simp at hb4 ⊢; omega
         rw [sameOps,h0]; rfl)
      | (rw [keep_bool]; congr 1; symm
         rw [sameOps,Bool.and_eq_false_iff]; right; rw [List.all_eq_false]
         exact ⟨_,List.mem_of_getElem? hz,by simpa using hb13⟩)
      | (rw [keep_bool]; congr 1; symm
         have ht : t = a.length := by have := of_decide_eq_false hb10; omega
         rw [List.take_of_length_le (by rw [List.length_zipWith]; omega)] at hh
         rw [sameOps,hlen,hh]; simp)
end Go.PV
/- Pools: what Put does to the lists; ops of unlike replicas may be put in any order. -/
namespace Go.PV
open Go.Proofs
set_option linter.unusedVariables false
set_option linter.unusedSimpArgs false

theorem take_at {α : Type} {l : List α} {t : Nat} {o : α} (h : l[t]? = some o) : l.take (t + 1) = l.take t ++ [o] := by rw [List.take_add_one, h]; rfl
def putL (Ls : List (List OpS)) (o : OpS) : List (List OpS) := (putS Ls o).2
def tot (Ls : List (List OpS)) : Nat := (Ls.map List.length).sum
theorem tot_have (Ls : List (List OpS)) : (haveL Ls).sum = (tot Ls : Int) := by
  induction Ls with
  | nil => rfl
  | cons l Ls ih =>
    simp only [haveL,tot,List.map_cons,List.sum_cons] at ih ⊢
    rw [ih]; omega
theorem tot_not {Ls : List (List OpS)} (h : tot Ls < 400) : (sumS (haveL Ls)).1 ≠ 400 := by
  unfold sumS
  split
  · decide
  · rw [tot_have]; show (tot Ls : Int) ≠ 400; omega
theorem tot_set (x : OpS) : ∀ (Ls : List (List OpS)) (k : Nat), tot (Ls.set k (Ls.getD k [] ++ [x])) ≤ tot Ls + 1
  | [],k => by simp [tot]
  | l :: Ls,0 => by simp [tot]; omega
  | l :: Ls,k + 1 => by
    have := tot_set x Ls k
    simp only [tot,List.getD_cons_succ,List.set_cons_succ,List.map_cons,List.sum_cons] at this ⊢
    omega
theorem len_tot {Ls : List (List OpS)} {l : List OpS} (h : l ∈ Ls) : l.length ≤ tot Ls := by
  induction Ls with
  | nil => cases h
  | cons a Ls ih =>
    simp only [tot,List.map_cons,List.sum_cons]
    rcases List.mem_cons.1 h with rfl | h
    · omega
    · have := ih h; unfold tot at this; omega
/-- what Put makes of the list of the op's replica -/
def growO (l : List OpS) (o : OpS) : List OpS := if o.idN = (l.length : Int) + 1 then l ++ [o.own] else l
theorem set_getD (Ls : List (List OpS)) (k : Nat) : Ls.set k (Ls.getD k []) = Ls := by
  apply List.ext_getElem?
  intro i
  rw [List.getElem?_set]
  split
  · rename_i h
    subst h
    split
    · rename_i h2; simp [List.getD,List.getElem?_eq_getElem h2]
    · rename_i h2; rw [List.getElem?_eq_none (by omega)]
  · rfl
theorem have_getD (Ls : List (List OpS)) (k : Nat) : (haveL Ls).getD k 0 = ((Ls.getD k []).length : Int) := by
  simp only [haveL,List.getD,List.getElem?_map]
  cases Ls[k]? <;> rfl
theorem putL_eq {Ls : List (List OpS)} {o : OpS} (h : tot Ls < 400) :
    putL Ls o = if rightS o = true then Ls.set (o.idR - 1).toNat (growO (Ls.getD (o.idR - 1).toNat []) o) else Ls := by
  unfold putL
  cases hR : rightS o with
  | false => simp [putS,hR]
  | true =>
    rw [putS_eq _ _ hR,if_pos rfl]
    by_cases hf : (findS Ls o.idR o.idN).2 = 0
    · rw [if_pos hf]
      have hh : hasB (haveL Ls) o.idR o.idN = true := by
        unfold findS at hf
        split at hf
        · assumption
        · exact absurd hf (by decide)
      simp only [hasB,Bool.and_eq_true,decide_eq_true_eq] at hh
      rw [have_getD] at hh
      show Ls = _
      rw [growO,if_neg (by omega),set_getD]
    · rw [if_neg hf]
      by_cases hn : o.idN = ((Ls.getD (o.idR - 1).toNat []).length : Int) + 1
      · rw [if_neg (by simpa using hn),if_neg (tot_not h),growO,if_pos hn]
      · rw [if_pos hn,growO,if_neg hn,set_getD]
theorem putL_tot (Ls : List (List OpS)) (o : OpS) : tot (putL Ls o) ≤ tot Ls + 1 := by
  unfold putL putS
  split
  · exact Nat.le_succ _
  · split
    · exact Nat.le_succ _
    · split
      · exact Nat.le_succ _
      · split
        · exact Nat.le_succ _
        · exact tot_set _ _ _
/-- the lists, their ops' drops -/
def OkLs (Ls : List (List OpS)) : Prop := ∀ l ∈ Ls, ∀ o ∈ l, o.drops.l.length ≤ maxApp
theorem OkLs.put {Ls : List (List OpS)} {o : OpS} (h : OkLs Ls) (ho : o.drops.l.length ≤ maxApp) : OkLs (putL Ls o) := by
  have key : OkLs (Ls.set (o.idR - 1).toNat (Ls.getD (o.idR - 1).toNat [] ++ [o.own])) := by
    intro l hl x hx
    rcases List.mem_or_eq_of_mem_set hl with hl | rfl
    · exact h l hl x hx
    · rcases List.mem_append.1 hx with hx | hx
      · simp only [List.getD] at hx
        cases hk : Ls[(o.idR - 1).toNat]? with
        | none => rw [hk] at hx; cases hx
        | some l' => rw [hk] at hx; exact h l' (List.mem_of_getElem? hk) x hx
      · obtain rfl := List.mem_singleton.1 hx
        show (cloneD o.drops).l.length ≤ maxApp
        rw [cloneD_l]; exact ho
  unfold putL putS
  split
  · exact h
  · split
    · exact h
    · split
      · exact h
      · split
        · exact h
        · exact key
def emptyL : List (List OpS) := [[], [], [], [], [], []]
theorem okEmpty : OkLs emptyL := fun l hl o ho => by
  simp only [emptyL,List.mem_cons,List.not_mem_nil,or_false] at hl
  rcases hl with rfl | rfl | rfl | rfl | rfl | rfl <;> cases ho
end Go.PV
/- Pools: calls of Put, Ops, Have for callers. -/
namespace Go.PV
open Go.Proofs
set_option linter.unusedVariables false
set_option linter.unusedSimpArgs false
set_option maxRecDepth 10000
set_option maxHeartbeats 1000000

/-- a pool that may be put to -/
structure Pool (Ls : List (List OpS)) (cs : List V) (ow : List (Nat × Nat)) (n : Nat) : Prop where
  p : PCt Ls cs
  a : Apart cs
  o : ∀ q ∈ cs.flatMap V.tokC,q ∈ ow
  d : OkLs Ls
  t : tot Ls ≤ n
theorem Pool.new (ow : List (Nat × Nat)) : Pool emptyL newC ow 0 :=
  ⟨by have := new_PCt (f := 0) (by decide); rwa [lsts_zero (by decide)] at this,new_apart,fun q hq => (by rw [new_toks] at hq; cases hq),okEmpty,Nat.le_refl _⟩
theorem Pool.facts {Ls : List (List OpS)} {cs : List V} {ow : List (Nat × Nat)} {n : Nat} (h : Pool Ls cs ow n) : ∀ c ∈ cs, c.noP0 = true ∧ c.isCell = true := fun c hc => by
  obtain ⟨l,_,hl⟩ := h.p.mem hc; exact ⟨hl.facts.1,hl.facts.2.1⟩
theorem Pool.lens {Ls : List (List OpS)} {cs : List V} {ow : List (Nat × Nat)} {n : Nat} (h : Pool Ls cs ow n) (hn : n ≤ 400) : ∀ l ∈ Ls, l.length ≤ 400 := fun l hl => by
  have := len_tot hl; have := h.t; omega
theorem PCt.lentAt {Ls : List (List OpS)} {cs : List V} (h : PCt Ls cs) {heap : List (List V)} {b : Nat} (hh : heap[b]? = some cs) : lentL heap [.ptr b 0] [.rptr (cs.map V.bareC)] :=
  ⟨.inr ⟨b,0,cs,rfl,hh,rfl,fun c hc => by obtain ⟨l,_,hl⟩ := h.mem hc; exact hl.facts.2.2⟩,trivial⟩
section
variable {ops : Array Oper} {os : List Oper} {K : St → Prop} {s : St} {dst : Option Tmp} {ty : TypeId} {pos : String} {after : Array Edge}
theorem WOps_put {f : Operand} {args : Array Operand} {ts : Array TypeId} {b n : Nat} {o : OpS} {Ls : List (List OpS)} {cs : List V} (hP : Pool Ls cs s.own n) (hn : n < 400) (ho : o.dropsL.length ≤ 200)
    (hf : ev s f = some (.func (.func 30) [])) (hx : evL s args.toList = some [.ptr b 0,opW o]) (hb : s.heap[b]? = some cs)
    (k : ∀ cs' ow' n',Pool (putL Ls o) cs' ow' (n + 1) → WOps Try.prog ops os K (St.put ⟨s.slots,s.heap.set b cs',ow',n'⟩ dst (.int .i64 (putS Ls o).1))) :
    WOps Try.prog ops (⟨dst, .call ⟨.value f,args,ts⟩,ty,pos,after,none⟩ :: os) K s := by
  refine WOps_callH (b := b) (o := 0) (ys := [opW o]) (cs := cs) (put_any1 hP.p hP.a o (by omega) hP.d (hP.lens (by omega))) hf hx hb (by intro y hy; obtain rfl := List.mem_singleton.1 hy; exact op_noP _) hP.facts hP.o ?_
  rintro _ _ n' ⟨rfl,cs',rfl,hP',hA'⟩ hnn
  refine ⟨cs',rfl,hP'.noP,rfl,k cs' _ n' ⟨hP',hA',fun q hq => ?_,hP.d.put (by show o.dropsL.length ≤ _; unfold maxApp; omega), ?_⟩⟩
  · exact List.mem_append_left _ (List.mem_append_right _ hq)
  · have := putL_tot Ls o; have := hP.t; omega
/-- Ops of a pool without tokens -/
theorem WOps_opsB {f : Operand} {args : Array Operand} {ts : Array TypeId} {b : Nat} {Ls : List (List OpS)} {cs : List V} (hP : PCt Ls cs) (h0 : cs.flatMap V.tokC = []) (hd : OkLs Ls) (hl : ∀ l ∈ Ls, l.length ≤ 400)
    (hf : ev s f = some (.func (.func 32) [])) (hx : evL s args.toList = some [.ptr b 0]) (hb : s.heap[b]? = some cs)
    (k : ∀ ow' n',(∀ q ∈ s.own,q ∈ ow') → WOps Try.prog ops os K (St.put ⟨s.slots,s.heap.set b cs,ow',n'⟩ dst (opsV (sinceL Ls zeroV 400)))) :
    WOps Try.prog ops (⟨dst, .call ⟨.value f,args,ts⟩,ty,pos,after,none⟩ :: os) K s := by
  refine WOps_callH (b := b) (o := 0) (ys := []) (cs := cs) (h__punnet_pool_Pool_Ops Ls cs hP hd hl) hf hx hb (fun y hy => absurd hy List.not_mem_nil) (fun c hc => by obtain ⟨l,_,hl⟩ := hP.mem hc; exact ⟨hl.facts.1,hl.facts.2.1⟩) (fun q hq => by rw [h0] at hq; cases hq) ?_
  rintro _ _ n' ⟨rfl,rfl⟩ hnn
  refine ⟨cs,rfl,hP.noP,(opsV_facts _).1,k _ n' fun q hq => ?_⟩
  rw [(opsV_facts _).2.1,List.nil_append,h0]
  exact List.mem_append_right _ (List.mem_filter.2 ⟨hq,by simp⟩)
end
theorem own_drops (o : OpS) : o.own.dropsL.length = o.dropsL.length := by
  show (cloneD o.drops).l.length = _
  rw [cloneD_l]; rfl
theorem part_mem {Ls : List (List OpS)} {v : List Int} {t : Nat} {o : OpS} (h : o ∈ partL Ls v t) : ∃ l ∈ Ls, ∃ p ∈ l, o = p.own := by
  obtain ⟨p,hp,rfl⟩ := List.mem_map.1 h
  obtain ⟨l,hl,hp⟩ := List.mem_flatten.1 (List.mem_filter.1 hp).1
  exact ⟨l,List.mem_of_mem_take hl,p,hp,rfl⟩
theorem since_mem {Ls : List (List OpS)} {v : List Int} {m : Int} {o : OpS} (h : o ∈ sinceL Ls v m) : ∃ l ∈ Ls, ∃ p ∈ l, o = p.own := part_mem (List.mem_of_mem_take h)
theorem since_drops {Ls : List (List OpS)} {v : List Int} {m : Int} (hd : OkLs Ls) : ∀ o ∈ sinceL Ls v m, o.dropsL.length ≤ 4611686018427387904 := fun o ho => by
  obtain ⟨l,hl,p,hp,rfl⟩ := since_mem ho
  rw [own_drops]
  have : p.dropsL.length ≤ maxApp := hd l hl p hp
  unfold maxApp at this; omega
theorem since_len (Ls : List (List OpS)) (v : List Int) : (sinceL Ls v 400).length ≤ maxLen := by
  have h : (sinceL Ls v 400).length ≤ 400 := by rw [sinceL,List.length_take]; exact Nat.min_le_left _ _
  unfold maxLen; omega
theorem heavy_ok {l : List OpS} {m : Int} (h : heavyOps l m = false) : (l.length : Int) ≤ m ∧ ∀ o ∈ l, o.dropsL.length ≤ 200 := by
  simp only [heavyOps,Bool.or_eq_false_iff,decide_eq_false_iff_not] at h
  refine ⟨by omega,fun o ho => ?_⟩
  have h2 : heavyB o = false := by
    cases hb : heavyB o with
    | false => rfl
    | true => rw [List.any_eq_true.2 ⟨o,ho,hb⟩] at h; exact absurd h.2 (by simp)
  simp only [heavyB,Bool.or_eq_false_iff,decide_eq_false_iff_not] at h2
  omega
end Go.PV
/- Arguments: lists of ops. -/
namespace Go.PV
open Go.Proofs
section
variable {H : Type} {enc : TypeId × Value → H} {W : World}
theorem okWide_slice {P : Program} {r : Reach} {base : Nat} {t e : TypeId} {v : Value} (hu : P.underlying t = some (.slice e)) (h : Value.okWide P W r base t v) : ∃ a n m, v = .slice a n m := by
  unfold Value.okWide at h
  simp only [hu] at h
  unfold Cell.okWide at h
  simp only [hu] at h
  unfold Cell.ok at h
  simp only [hu] at h
  cases v <;> first | exact ⟨_,_,_,rfl⟩ | exact h.elim | (simp at h)
/-- an argument that is a slice -/
theorem arg_slice {P : Program} {t e : TypeId} {v : Value} {d : DataW H} {ps : List MemPlace} {base : Nat} {α : Type} {emb : α → List V} {ok : α → Prop} (hs : ShC enc P W t emb ok) (hu : P.underlying t = some (.slice e))
    (hv : Value.okWide P W .any base t v) (hd : DataW.Trod enc P W 0 (fun _ => true) true t v d ps) : ∃ a,ok a ∧ LR W (G0 W) [v] (emb a) := by
  obtain ⟨a,n,m,rfl⟩ := okWide_slice hu hv
  obtain ⟨fuel,hf⟩ := hd
  exact hs _ _ _ hf
def opsOf : Option (List OpS) → List OpS × V
  | none => ([], .nils)
  | some l => (l, .slice 15 (l.map opW) false none)
theorem so_ops : ShC enc Try.prog W 52 (fun q : List OpS × V => [q.2]) (fun q => PS q.1 q.2 ∧ q.1.length ≤ maxLen) :=
  (ShC.slice so_op (sz := 15) Try.underlying52 (by kernel_rfl) (by decide) opW fun o _ => ⟨op_cells o,rfl,op_clean o⟩).map opsOf fun q hq => by
    cases q with
    | none => exact ⟨rfl, .inl ⟨rfl,rfl⟩,Nat.zero_le _⟩
    | some l => exact ⟨rfl, .inr ⟨false,rfl⟩,(hq l rfl).1⟩
theorem arg_ops {v : Value} {d : DataW H} {ps : List MemPlace} {base : Nat} (hv : Value.okWide Try.prog W .any base 52 v) (hd : DataW.Trod enc Try.prog W 0 (fun _ => true) true 52 v d ps) :
    ∃ q : List OpS × V,(PS q.1 q.2 ∧ q.1.length ≤ maxLen) ∧ Rep W (G0 W) v q.2 := by
  obtain ⟨q,hq,hr⟩ := arg_slice so_ops Try.underlying52 hv hd
  have h := hr.rep 0 _ rfl
  simp only [List.getD_cons_zero] at h
  exact ⟨q,hq,h⟩
end
end Go.PV
/- punnetref20: plain, Right. -/
namespace Go.PV
open Go.Proofs
set_option linter.unusedVariables false
set_option linter.unusedSimpArgs false
set_option maxRecDepth 10000
set_option maxHeartbeats 8000000

/-- nothing of a field's -/
def plainB (o : OpS) : Bool := (o.atS == 0 && (o.atG == [] && o.atN == [])) && ((o.delta == 0) && (!o.has && (o.text == [])))
theorem c_punnet_punnetref20_plain (o : OpS) : VC Try.prog 68 [opW o] [] (fun r _ => r = .bool (plainB o)) := by
  refine VC_enter (nt := 22) (rs := [.tmp 2]) (ow := []) (m := 0) Try.func68 rfl (by rfl) rfl rfl (by simp) (by simp [ownOf,op_toks]) rfl (fun n => ?_)
  simp only [zipT,Nat.zero_add]
  refine WC_seqR (fun N1 hN1 hD1 => ?_)
  simp only [sS,↓sT,if_true,if_false,Nat.reduceLT,Nat.reduceEqDiff,↓sO,↓WOps_g,sG,opV,loudV,cellsOf,strOp,evL,Nat.reduceAdd,beq_self_eq_true,bne_self_eq_false,Int.reduceBEq,Int.reduceBNe,op_cells,op_isC,opCells,List.all_cons,List.all_nil,icell_int,icell_str,icell_bool,dropsW_isC,Bool.and_self,load_slice,load_int,load_str,load_bool,tag_load2,ref_load,tag_eql,ref_eql,str_eql,bool_eql,ref_fold,ti3,ti9,ti47,decide_true,decide_false]
  refine hN1 _ ?_; try clear hN1 hD1 N1
  refine WC_seqR (fun N2 hN2 hD2 => ?_)
  simp only [sS,↓sT,if_true,if_false,Nat.reduceLT,Nat.reduceEqDiff,↓sO,↓WOps_g,sG,opV,loudV,cellsOf,strOp,evL,Nat.reduceAdd,beq_self_eq_true,bne_self_eq_false,Int.reduceBEq,Int.reduceBNe,fa49_6,fr49_6,fv49_6,ti47,buildV,evParts,V.isCell,List.all_cons,List.all_nil,Bool.and_self,if_true,placesOf,fillV,List.getElem?_cons_zero,List.getElem?_cons_succ,List.length_cons,List.length_nil,Nat.zero_add,Nat.reduceAdd,ne_eq,not_true_eq_false,false_or,gt_iff_lt,Nat.reduceLT,if_false,wrL,Option.map_some,List.set_cons_zero,List.set_cons_succ,fa49_7,fr49_7,fv49_7,ti2,fa49_8,fr49_8,fv49_8,ti4,fa49_9,fr49_9,fv49_9,ti9,op_cells,op_isC,opCells,List.all_cons,List.all_nil,icell_int,icell_str,icell_bool,dropsW_isC,Bool.and_self,load_slice,load_int,load_str,load_bool,tag_load2,ref_load,tag_eql,ref_eql,str_eql,bool_eql,ref_fold,ti3,ti9,ti47,decide_true,decide_false]
  refine stepB_T (fun hg2_4 => ?_) (fun hg2_4 => ?_)
  · simp only [sS,↓sT,if_true,if_false,Nat.reduceLT,Nat.reduceEqDiff,↓sO,↓WOps_g,sG,opV,loudV,cellsOf,strOp,evL,Nat.reduceAdd,beq_self_eq_true,bne_self_eq_false,Int.reduceBEq,Int.reduceBNe,fa49_6,fr49_6,fv49_6,ti47,buildV,evParts,V.isCell,List.all_cons,List.all_nil,Bool.and_self,if_true,placesOf,fillV,List.getElem?_cons_zero,List.getElem?_cons_succ,List.length_cons,List.length_nil,Nat.zero_add,Nat.reduceAdd,ne_eq,not_true_eq_false,false_or,gt_iff_lt,Nat.reduceLT,if_false,wrL,Option.map_some,List.set_cons_zero,List.set_cons_succ,fa49_7,fr49_7,fv49_7,ti2,fa49_8,fr49_8,fv49_8,ti4,fa49_9,fr49_9,fv49_9,ti9,op_cells,op_isC,opCells,List.all_cons,List.all_nil,icell_int,icell_str,icell_bool,dropsW_isC,Bool.and_self,load_slice,load_int,load_str,load_bool,tag_load2,ref_load,tag_eql,ref_eql,str_eql,bool_eql,ref_fold,ti3,ti9,ti47,hg2_4,decide_true,decide_false]
    refine stepB_T (fun hg2_9 => ?_) (fun hg2_9 => ?_)
    · have ehg2_9 := eq_of_beq hg2_9
      simp only [sS,↓sT,if_true,if_false,Nat.reduceLT,Nat.reduceEqDiff,↓sO,↓WOps_g,sG,opV,loudV,cellsOf,strOp,evL,Nat.reduceAdd,beq_self_eq_true,bne_self_eq_false,Int.reduceBEq,Int.reduceBNe,fa49_6,fr49_6,fv49_6,ti47,buildV,evParts,V.isCell,List.all_cons,List.all_nil,Bool.and_self,if_true,placesOf,fillV,List.getElem?_cons_zero,List.getElem?_cons_succ,List.length_cons,List.length_nil,Nat.zero_add,Nat.reduceAdd,ne_eq,not_true_eq_false,false_or,gt_iff_lt,Nat.reduceLT,if_false,wrL,Option.map_some,List.set_cons_zero,List.set_cons_succ,fa49_7,fr49_7,fv49_7,ti2,fa49_8,fr49_8,fv49_8,ti4,fa49_9,fr49_9,fv49_9,ti9,op_cells,op_isC,opCells,List.all_cons,List.all_nil,icell_int,icell_str,icell_bool,dropsW_isC,Bool.and_self,load_slice,load_int,load_str,load_bool,tag_load2,ref_load,tag_eql,ref_eql,str_eql,bool_eql,ref_fold,ti3,ti9,ti47,hg2_4,ehg2_9,decide_true,decide_false]
      refine stepB_T (fun hg2_14 => ?_) (fun hg2_14 => ?_)
      · simp only [sS,↓sT,if_true,if_false,Nat.reduceLT,Nat.reduceEqDiff,↓sO,↓WOps_g,sG,opV,loudV,cellsOf,strOp,evL,Nat.reduceAdd,beq_self_eq_true,bne_self_eq_false,Int.reduceBEq,Int.reduceBNe,fa49_6,fr49_6,fv49_6,ti47,buildV,evParts,V.isCell,List.all_cons,List.all_nil,Bool.and_self,if_true,placesOf,fillV,List.getElem?_cons_zero,List.getElem?_cons_succ,List.length_cons,List.length_nil,Nat.zero_add,Nat.reduceAdd,ne_eq,not_true_eq_false,false_or,gt_iff_lt,Nat.reduceLT,if_false,wrL,Option.map_some,List.set_cons_zero,List.set_cons_succ,fa49_7,fr49_7,fv49_7,ti2,fa49_8,fr49_8,fv49_8,ti4,fa49_9,fr49_9,fv49_9,ti9,op_cells,op_isC,opCells,List.all_cons,List.all_nil,icell_int,icell_str,icell_bool,dropsW_isC,Bool.and_self,load_slice,load_int,load_str,load_bool,tag_load2,ref_load,tag_eql,ref_eql,str_eql,bool_eql,ref_fold,ti3,ti9,ti47,hg2_4,ehg2_9,hg2_14,decide_true,decide_false]
        refine hN2 _ ?_; try clear hN2 hD2 N2
        refine WC_ret ?_; (try simp only [Exit.after,Exit.out]); refine Kend_ret (by simp only [resOf,resL,resV,mkS_get,slots_get,cellsOf,op_load,ti3,ti52,ti49,sS,↓sT,if_true,if_false,Nat.reduceLT,Nat.reduceEqDiff]; rfl) (by first | rfl | (simp only [op_load,ti3,ti52,ti49]; done) | (simp only [op_load,ti3,ti52,ti49,okV,ok1,okC,okP,List.all_cons,List.all_nil,Bool.and_true]; done)) ?_
        first | (simp_all [plainB,keep_bool]; done)
      · simp only [sS,↓sT,if_true,if_false,Nat.reduceLT,Nat.reduceEqDiff,↓sO,↓WOps_g,sG,opV,loudV,cellsOf,strOp,evL,Nat.reduceAdd,beq_self_eq_true,bne_self_eq_false,Int.reduceBEq,Int.reduceBNe,fa49_6,fr49_6,fv49_6,ti47,buildV,evParts,V.isCell,List.all_cons,List.all_nil,Bool.and_self,if_true,placesOf,fillV,List.getElem?_cons_zero,List.getElem?_cons_succ,List.length_cons,List.length_nil,Nat.zero_add,Nat.reduceAdd,ne_eq,not_true_eq_false,false_or,gt_iff_lt,Nat.reduceLT,if_false,wrL,Option.map_some,List.set_cons_zero,List.set_cons_succ,fa49_7,fr49_7,fv49_7,ti2,fa49_8,fr49_8,fv49_8,ti4,fa49_9,fr49_9,fv49_9,ti9,op_cells,op_isC,opCells,List.all_cons,List.all_nil,icell_int,icell_str,icell_bool,dropsW_isC,Bool.and_self,load_slice,load_int,load_str,load_bool,tag_load2,ref_load,tag_eql,ref_eql,str_eql,bool_eql,ref_fold,ti3,ti9,ti47,hg2_4,ehg2_9,hg2_14,decide_true,decide_false]
        refine hN2 _ ?_; try clear hN2 hD2 N2
        refine WC_ret ?_; (try simp only [Exit.after,Exit.out]); refine Kend_ret (by simp only [resOf,resL,resV,mkS_get,slots_get,cellsOf,op_load,ti3,ti52,ti49,sS,↓sT,if_true,if_false,Nat.reduceLT,Nat.reduceEqDiff]; rfl) (by first | rfl | (simp only [op_load,ti3,ti52,ti49]; done) | (simp only [op_load,ti3,ti52,ti49,okV,ok1,okC,okP,List.all_cons,List.all_nil,Bool.and_true]; done)) ?_
        first | (simp_all [plainB,keep_bool]; done)
    · simp only [sS,↓sT,if_true,if_false,Nat.reduceLT,Nat.reduceEqDiff,↓sO,↓WOps_g,sG,opV,loudV,cellsOf,strOp,evL,Nat.reduceAdd,beq_self_eq_true,bne_self_eq_false,Int.reduceBEq,Int.reduceBNe,fa49_6,fr49_6,fv49_6,ti47,buildV,evParts,V.isCell,List.all_cons,List.all_nil,Bool.and_self,if_true,placesOf,fillV,List.getElem?_cons_zero,List.getElem?_cons_succ,List.length_cons,List.length_nil,Nat.zero_add,Nat.reduceAdd,ne_eq,not_true_eq_false,false_or,gt_iff_lt,Nat.reduceLT,if_false,wrL,Option.map_some,List.set_cons_zero,List.set_cons_succ,fa49_7,fr49_7,fv49_7,ti2,fa49_8,fr49_8,fv49_8,ti4,fa49_9,fr49_9,fv49_9,ti9,op_cells,op_isC,opCells,List.all_cons,List.all_nil,icell_int,icell_str,icell_bool,dropsW_isC,Bool.and_self,load_slice,load_int,load_str,load_bool,tag_load2,ref_load,tag_eql,ref_eql,str_eql,bool_eql,ref_fold,ti3,ti9,ti47,hg2_4,hg2_9,decide_true,decide_false]
      refine hN2 _ ?_; try clear hN2 hD2 N2
      refine WC_ret ?_; (try simp only [Exit.after,Exit.out]); refine Kend_ret (by simp only [resOf,resL,resV,mkS_get,slots_get,cellsOf,op_load,ti3,ti52,ti49,sS,↓sT,if_true,if_false,Nat.reduceLT,Nat.reduceEqDiff]; rfl) (by first | rfl | (simp only [op_load,ti3,ti52,ti49]; done) | (simp only [op_load,ti3,ti52,ti49,okV,ok1,okC,okP,List.all_cons,List.all_nil,Bool.and_true]; done)) ?_
      first | (simp_all [plainB,keep_bool]; done)
  · simp only [sS,↓sT,if_true,if_false,Nat.reduceLT,Nat.reduceEqDiff,↓sO,↓WOps_g,sG,opV,loudV,cellsOf,strOp,evL,Nat.reduceAdd,beq_self_eq_true,bne_self_eq_false,Int.reduceBEq,Int.reduceBNe,fa49_6,fr49_6,fv49_6,ti47,buildV,evParts,V.isCell,List.all_cons,List.all_nil,Bool.and_self,if_true,placesOf,fillV,List.getElem?_cons_zero,List.getElem?_cons_succ,List.length_cons,List.length_nil,Nat.zero_add,Nat.reduceAdd,ne_eq,not_true_eq_false,false_or,gt_iff_lt,Nat.reduceLT,if_false,wrL,Option.map_some,List.set_cons_zero,List.set_cons_succ,fa49_7,fr49_7,fv49_7,ti2,fa49_8,fr49_8,fv49_8,ti4,fa49_9,fr49_9,fv49_9,ti9,op_cells,op_isC,opCells,List.all_cons,List.all_nil,icell_int,icell_str,icell_bool,dropsW_isC,Bool.and_self,load_slice,load_int,load_str,load_bool,tag_load2,ref_load,tag_eql,ref_eql,str_eql,bool_eql,ref_fold,ti3,ti9,ti47,hg2_4,decide_true,decide_false]
    refine hN2 _ ?_; try clear hN2 hD2 N2
    refine WC_ret ?_; (try simp only [Exit.after,Exit.out]); refine Kend_ret (by simp only [resOf,resL,resV,mkS_get,slots_get,cellsOf,op_load,ti3,ti52,ti49,sS,↓sT,if_true,if_false,Nat.reduceLT,Nat.reduceEqDiff]; rfl) (by first | rfl | (simp only [op_load,ti3,ti52,ti49]; done) | (simp only [op_load,ti3,ti52,ti49,okV,ok1,okC,okP,List.all_cons,List.all_nil,Bool.and_true]; done)) ?_
    first | (simp_all [plainB,keep_bool]; done)
end Go.PV
