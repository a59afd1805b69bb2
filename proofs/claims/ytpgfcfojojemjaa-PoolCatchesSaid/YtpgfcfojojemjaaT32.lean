/- Names. -/
import Derived.Test.YtpgfcfojojemjaaT31
namespace Go.PV
open Go.Proofs
set_option linter.unusedVariables false
set_option linter.unusedSimpArgs false
set_option maxRecDepth 10000
set_option maxHeartbeats 1000000

theorem len_strN (s : List UInt8) : lenV Try.prog 9 (.str s) = some (.int .i64 s.length) := by simp [lenV, ti9]
theorem str_ix {s : List UInt8} {i : Nat} {c : UInt8} (h : s[i]? = some c) : indexV Try.prog 9 (.str s) (.int .i64 i) = some (.int .u8 c.toNat) := by
  simp [indexV,ti9,h,byteV]
theorem str_ix0 {s : List UInt8} {c : UInt8} (h : s[0]? = some c) : indexV Try.prog 9 (.str s) (.int .i64 0) = some (.int .u8 c.toNat) := str_ix h
def letterB (c : Int) : Bool := decide (97 ≤ c) && decide (c ≤ 122)
def digitB (c : Int) : Bool := decide (48 ≤ c) && decide (c ≤ 57)
def signB (c : UInt8) : Bool := letterB c.toNat || digitB c.toNat
def nameB : List UInt8 → Bool
  | [] => false
  | c :: s => decide (s.length < 12) && letterB c.toNat && s.all signB
theorem c_punnet_name_letter (c : Int) : VC Try.prog 65 [.int .u8 c] [] (fun r _ => r = .bool (letterB c)) := by
  refine VC_enter (nt := 9) (rs := [.tmp 2]) (ow := []) (m := 0) Try.func65 rfl (by rfl) rfl rfl (by simp) rfl rfl (fun n => ?_)
  simp only [zipT,Nat.zero_add]
  refine WC_seqR (fun N1 hN1 hD1 => ?_)
  simp only [sS,↓sT,if_true,if_false,Nat.reduceLT,Nat.reduceEqDiff,↓sO,↓WOps_g,sG,opV,loudV,cellsOf,strOp,evL,Nat.reduceAdd,beq_self_eq_true,bne_self_eq_false,Int.reduceBEq,Int.reduceBNe,decide_true,decide_false]
  refine hN1 _ ?_; try clear hN1 hD1 N1
  refine WC_seqR (fun N2 hN2 hD2 => ?_)
  simp only [sS,↓sT,if_true,if_false,Nat.reduceLT,Nat.reduceEqDiff,↓sO,↓WOps_g,sG,opV,loudV,cellsOf,strOp,evL,Nat.reduceAdd,beq_self_eq_true,bne_self_eq_false,Int.reduceBEq,Int.reduceBNe,decide_true,decide_false]
  refine stepB_T (fun hg2_2 => ?_) (fun hg2_2 => ?_)
  · simp only [sS,↓sT,if_true,if_false,Nat.reduceLT,Nat.reduceEqDiff,↓sO,↓WOps_g,sG,opV,loudV,cellsOf,strOp,evL,Nat.reduceAdd,beq_self_eq_true,bne_self_eq_false,Int.reduceBEq,Int.reduceBNe,hg2_2,decide_true,decide_false]
    refine hN2 _ ?_; try clear hN2 hD2 N2
    refine WC_ret ?_; (try simp only [Exit.after,Exit.out]); refine Kend_ret (by simp only [resOf,resL,resV,mkS_get,slots_get,cellsOf,ti3,sS,↓sT,if_true,if_false,Nat.reduceLT,Nat.reduceEqDiff]; rfl) (by first | rfl | (simp only [ti3]; done) | (simp only [ti3,okV,ok1,okC,okP,List.all_cons,List.all_nil,Bool.and_true]; done)) ?_
    (simp_all [letterB,keep_bool] <;> omega)
  · simp only [sS,↓sT,if_true,if_false,Nat.reduceLT,Nat.reduceEqDiff,↓sO,↓WOps_g,sG,opV,loudV,cellsOf,strOp,evL,Nat.reduceAdd,beq_self_eq_true,bne_self_eq_false,Int.reduceBEq,Int.reduceBNe,hg2_2,decide_true,decide_false]
    refine hN2 _ ?_; try clear hN2 hD2 N2
    refine WC_ret ?_; (try simp only [Exit.after,Exit.out]); refine Kend_ret (by simp only [resOf,resL,resV,mkS_get,slots_get,cellsOf,ti3,sS,↓sT,if_true,if_false,Nat.reduceLT,Nat.reduceEqDiff]; rfl) (by first | rfl | (simp only [ti3]; done) | (simp only [ti3,okV,ok1,okC,okP,List.all_cons,List.all_nil,Bool.and_true]; done)) ?_
    (simp_all [letterB,keep_bool] <;> omega)
theorem c_punnet_name_Text (s : List UInt8) : VC Try.prog 60 [.str s] [] (fun r _ => r = .bool (decide ((s.length : Int) ≤ 40))) := by
  refine VC_enter (nt := 6) (rs := [.tmp 2]) (ow := []) (m := 0) Try.func60 rfl (by rfl) rfl rfl (by simp) rfl rfl (fun n => ?_)
  simp only [zipT,Nat.zero_add]
  refine WC_seqR (fun N1 hN1 hD1 => ?_)
  simp only [sS,↓sT,if_true,if_false,Nat.reduceLT,Nat.reduceEqDiff,↓sO,↓WOps_g,sG,opV,loudV,cellsOf,strOp,evL,Nat.reduceAdd,beq_self_eq_true,bne_self_eq_false,Int.reduceBEq,Int.reduceBNe,len_strN,decide_true,decide_false]
  refine hN1 _ ?_; try clear hN1 hD1 N1
  refine WC_seqR (fun N2 hN2 hD2 => ?_)
  simp only [sS,↓sT,if_true,if_false,Nat.reduceLT,Nat.reduceEqDiff,↓sO,↓WOps_g,sG,opV,loudV,cellsOf,strOp,evL,Nat.reduceAdd,beq_self_eq_true,bne_self_eq_false,Int.reduceBEq,Int.reduceBNe,ti9,len_strN,decide_true,decide_false]
  refine hN2 _ ?_; try clear hN2 hD2 N2
  refine WC_ret ?_; (try simp only [Exit.after,Exit.out]); refine Kend_ret (by simp only [resOf,resL,resV,mkS_get,slots_get,cellsOf,ti3,sS,↓sT,if_true,if_false,Nat.reduceLT,Nat.reduceEqDiff]; rfl) (by first | rfl | (simp only [ti3]; done) | (simp only [ti3,okV,ok1,okC,okP,List.all_cons,List.all_nil,Bool.and_true]; done)) ?_
  rfl
theorem all_take {s : List UInt8} {i : Nat} {c : UInt8} (h : s[i]? = some c) : (s.take (i + 1)).all signB = ((s.take i).all signB && signB c) := by
  rw [List.take_add_one,h]; simp
theorem nameB_cons {s : List UInt8} {c : UInt8} (h : s[0]? = some c) : nameB s = (decide (s.length ≤ 12) && letterB c.toNat && s.all signB) := by
  cases s with
  | nil => cases h
  | cons d s =>
    obtain rfl : d = c := by simpa using h
    simp only [nameB,List.length_cons,List.all_cons,signB]
    cases hl : letterB d.toNat
    · simp
    · simp [Nat.lt_iff_add_one_le]
theorem all_false {s : List UInt8} {i : Nat} {c : UInt8} (h : s[i]? = some c) (hc : signB c = false) : s.all signB = false := by
  rw [List.all_eq_false]
  exact ⟨c,List.mem_of_getElem? h,by simp [hc]⟩
theorem c_punnet_name_Name (s : List UInt8) (c : UInt8) (hc : s[0]? = some c) : VC Try.prog 58 [.str s] [] (fun r _ => r = .bool (nameB s)) := by
  refine VC_enter (nt := 40) (rs := [.tmp 2]) (ow := []) (m := 0) Try.func58 rfl (by rfl) rfl rfl (by simp) rfl rfl (fun n => ?_)
  simp only [zipT,Nat.zero_add]
  refine WC_seqR (fun N1 hN1 hD1 => ?_)
  simp only [sS,↓sT,if_true,if_false,Nat.reduceLT,Nat.reduceEqDiff,↓sO,↓WOps_g,sG,opV,loudV,cellsOf,strOp,evL,Nat.reduceAdd,beq_self_eq_true,bne_self_eq_false,Int.reduceBEq,Int.reduceBNe,len_strN,bs_mk,str_ix0 hc,gt_iff_lt,decide_true,decide_false]
  refine hN1 _ ?_; try clear hN1 hD1 N1
  refine WC_seqN (fun N2 hN2 hD2 => ?_)
  refine WC_seqR (fun N3 hN3 hD3 => ?_)
  simp only [sS,↓sT,if_true,if_false,Nat.reduceLT,Nat.reduceEqDiff,↓sO,↓WOps_g,sG,opV,loudV,cellsOf,strOp,evL,Nat.reduceAdd,beq_self_eq_true,bne_self_eq_false,Int.reduceBEq,Int.reduceBNe,ti9,len_strN,bs_mk,str_ix0 hc,gt_iff_lt,decide_true,decide_false]
  refine stepB_F (fun hg3_2 => ?_) (fun hg3_2 => ?_)
  · simp only [sS,↓sT,if_true,if_false,Nat.reduceLT,Nat.reduceEqDiff,↓sO,↓WOps_g,sG,opV,loudV,cellsOf,strOp,evL,Nat.reduceAdd,beq_self_eq_true,bne_self_eq_false,Int.reduceBEq,Int.reduceBNe,ti9,len_strN,bs_mk,str_ix0 hc,gt_iff_lt,hg3_2,decide_true,decide_false]
    refine stepB_F (fun hg3_7 => ?_) (fun hg3_7 => ?_)
    · simp only [sS,↓sT,if_true,if_false,Nat.reduceLT,Nat.reduceEqDiff,↓sO,↓WOps_g,sG,opV,loudV,cellsOf,strOp,evL,Nat.reduceAdd,beq_self_eq_true,bne_self_eq_false,Int.reduceBEq,Int.reduceBNe,ti9,len_strN,bs_mk,str_ix0 hc,gt_iff_lt,hg3_2,hg3_7,decide_true,decide_false]
      refine WOps_callP (c_punnet_name_letter _) (by simp only [ev_func]) (by simp only [evL,sS,↓sT,if_true,if_false,Nat.reduceLT,Nat.reduceEqDiff]; rfl) (by first | rfl | (simp only [List.map,bare_int]; done) | (simp only [List.map,bare_int]; exact rfl)) (by first | rfl | simp [noP_int]) (by first | rfl | simp [noP_int]) rfl ?_
      simp only [sS,↓sT,if_true,if_false,Nat.reduceLT,Nat.reduceEqDiff,↓sO,↓WOps_g,sG,opV,loudV,cellsOf,strOp,evL,Nat.reduceAdd,beq_self_eq_true,bne_self_eq_false,Int.reduceBEq,Int.reduceBNe,ti9,len_strN,bs_mk,str_ix0 hc,gt_iff_lt,hg3_2,hg3_7,decide_true,decide_false]
      refine hN3 _ ?_; try clear hN3 hD3 N3
      refine WC_condE ?_
      simp only [sS,↓sT,if_true,if_false,Nat.reduceLT,Nat.reduceEqDiff,↓stepC_bool]
      refine ⟨fun hb4 => ?_,fun hb4 => ?_⟩
      · refine WC_seqR (fun N5 hN5 hD5 => ?_)
        simp only [sS,↓sT,if_true,if_false,Nat.reduceLT,Nat.reduceEqDiff,↓sO,↓WOps_g,sG,opV,loudV,cellsOf,strOp,evL,Nat.reduceAdd,beq_self_eq_true,bne_self_eq_false,Int.reduceBEq,Int.reduceBNe,len_strN,bs_mk,str_ix0 hc,gt_iff_lt,decide_true,decide_false]
        refine hN5 _ ?_; try clear hN5 hD5 N5
        refine WC_ret ?_; (try simp only [Exit.after,Exit.out]); refine Kend_ret (by simp only [resOf,resL,resV,mkS_get,slots_get,cellsOf,ti3,sS,↓sT,if_true,if_false,Nat.reduceLT,Nat.reduceEqDiff]; rfl) (by first | rfl | (simp only [ti3]; done) | (simp only [ti3,okV,ok1,okC,okP,List.all_cons,List.all_nil,Bool.and_true]; done)) ?_
        clear hN2 hD2 N2
        rw [keep_bool,nameB_cons hc]
        first | (simp_all; done) | (simp_all; omega) | (rw [all_false hc2 (by simp_all [signB,digitB] <;> omega)]; simp) | skip
      · refine WC_skip ?_
        refine hN2 _ ?_; try clear hN2 hD2 N2
        refine WC_seqN (fun N6 hN6 hD6 => ?_)
        refine WC_seqR (fun N7 hN7 hD7 => ?_)
        simp only [sS,↓sT,if_true,if_false,Nat.reduceLT,Nat.reduceEqDiff,↓sO,↓WOps_g,sG,opV,loudV,cellsOf,strOp,evL,Nat.reduceAdd,beq_self_eq_true,bne_self_eq_false,Int.reduceBEq,Int.reduceBNe,ti9,len_strN,bs_mk,str_ix0 hc,gt_iff_lt,decide_true,decide_false]
        refine hN7 _ ?_; try clear hN7 hD7 N7
        refine WC_block ?_
        refine WC_loopG (σ := Nat) (fun t s' => ∃ ps,s' = ⟨mkS 40 ps, [], [],n⟩ ∧ Has ps [(0, .str s),(18, .int .i64 s.length),(19, .int .i64 t)] ∧ t ≤ s.length ∧ (s.take t).all signB = true) (fun t => s.length - t) 0 ?_ (fun t s' hI => ?_)
        · exact ⟨_,rfl,⟨rfl,rfl,rfl,trivial⟩,by omega,rfl⟩
        obtain ⟨ps,rfl,hps,htl,htk⟩ := hI
        refine WC_has hps ?_; clear hps ps
        refine WC_seqR (fun N8 hN8 hD8 => ?_)
        simp only [sS,↓sT,if_true,if_false,Nat.reduceLT,Nat.reduceEqDiff,↓sO,↓WOps_g,sG,opV,loudV,cellsOf,strOp,evL,Nat.reduceAdd,beq_self_eq_true,bne_self_eq_false,Int.reduceBEq,Int.reduceBNe,len_strN,bs_mk,str_ix0 hc,gt_iff_lt,decide_true,decide_false]
        refine hN8 _ ?_; try clear hN8 hD8 N8
        refine WC_seqN (fun N9 hN9 hD9 => ?_)
        refine WC_condE ?_
        simp only [sS,↓sT,if_true,if_false,Nat.reduceLT,Nat.reduceEqDiff,↓stepC_bool]
        refine ⟨fun hb10 => ?_,fun hb10 => ?_⟩
        · have ht : t < s.length := by have := of_decide_eq_true hb10; omega
          clear hb10
          obtain ⟨c2,hc2⟩ : ∃ c2,s[t]? = some c2 := ⟨_,List.getElem?_eq_getElem ht⟩
          have hix := str_ix hc2
          have hlen : s.length ≤ 12 := by have := of_decide_eq_false hg3_7; omega
          refine WC_skip ?_
          refine hN9 _ ?_; try clear hN9 hD9 N9
          refine WC_seqN (fun N11 hN11 hD11 => ?_)
          refine WC_block ?_
          refine WC_seqR (fun N12 hN12 hD12 => ?_)
          simp only [sS,↓sT,if_true,if_false,Nat.reduceLT,Nat.reduceEqDiff,↓sO,↓WOps_g,sG,opV,loudV,cellsOf,strOp,evL,Nat.reduceAdd,beq_self_eq_true,bne_self_eq_false,Int.reduceBEq,Int.reduceBNe,len_strN,bs_mk,str_ix0 hc,gt_iff_lt,hix,wrapI (x := (t : Int) + 1) (by omega) (by omega),decide_true,decide_false]
          refine hN12 _ ?_; try clear hN12 hD12 N12
          refine WC_seqR (fun N13 hN13 hD13 => ?_)
          simp only [sS,↓sT,if_true,if_false,Nat.reduceLT,Nat.reduceEqDiff,↓sO,↓WOps_g,sG,opV,loudV,cellsOf,strOp,evL,Nat.reduceAdd,beq_self_eq_true,bne_self_eq_false,Int.reduceBEq,Int.reduceBNe,ti9,len_strN,bs_mk,str_ix0 hc,gt_iff_lt,hix,wrapI (x := (t : Int) + 1) (by omega) (by omega),decide_true,decide_false]
          refine WOps_callP (c_punnet_name_letter _) (by simp only [ev_func]) (by simp only [evL,sS,↓sT,if_true,if_false,Nat.reduceLT,Nat.reduceEqDiff]; rfl) (by first | rfl | (simp only [List.map,bare_int]; done) | (simp only [List.map,bare_int]; exact rfl)) (by first | rfl | simp [noP_int]) (by first | rfl | simp [noP_int]) rfl ?_
          simp only [sS,↓sT,if_true,if_false,Nat.reduceLT,Nat.reduceEqDiff,↓sO,↓WOps_g,sG,opV,loudV,cellsOf,strOp,evL,Nat.reduceAdd,beq_self_eq_true,bne_self_eq_false,Int.reduceBEq,Int.reduceBNe,ti9,len_strN,bs_mk,str_ix0 hc,gt_iff_lt,hix,wrapI (x := (t : Int) + 1) (by omega) (by omega),decide_true,decide_false]
          refine stepB_T (fun hg13_5 => ?_) (fun hg13_5 => ?_)
          · simp only [sS,↓sT,if_true,if_false,Nat.reduceLT,Nat.reduceEqDiff,↓sO,↓WOps_g,sG,opV,loudV,cellsOf,strOp,evL,Nat.reduceAdd,beq_self_eq_true,bne_self_eq_false,Int.reduceBEq,Int.reduceBNe,ti9,len_strN,bs_mk,str_ix0 hc,gt_iff_lt,hix,wrapI (x := (t : Int) + 1) (by omega) (by omega),hg13_5,decide_true,decide_false]
            refine stepB_F (fun hg13_10 => ?_) (fun hg13_10 => ?_)
            · simp only [sS,↓sT,if_true,if_false,Nat.reduceLT,Nat.reduceEqDiff,↓sO,↓WOps_g,sG,opV,loudV,cellsOf,strOp,evL,Nat.reduceAdd,beq_self_eq_true,bne_self_eq_false,Int.reduceBEq,Int.reduceBNe,ti9,len_strN,bs_mk,str_ix0 hc,gt_iff_lt,hix,wrapI (x := (t : Int) + 1) (by omega) (by omega),hg13_5,hg13_10,decide_true,decide_false]
              refine hN13 _ ?_; try clear hN13 hD13 N13
              refine WC_condE ?_
              simp only [sS,↓sT,if_true,if_false,Nat.reduceLT,Nat.reduceEqDiff,↓stepC_bool]
              refine ⟨fun hb14 => ?_,fun hb14 => ?_⟩
              · refine WC_seqR (fun N15 hN15 hD15 => ?_)
                simp only [sS,↓sT,if_true,if_false,Nat.reduceLT,Nat.reduceEqDiff,↓sO,↓WOps_g,sG,opV,loudV,cellsOf,strOp,evL,Nat.reduceAdd,beq_self_eq_true,bne_self_eq_false,Int.reduceBEq,Int.reduceBNe,len_strN,bs_mk,str_ix0 hc,gt_iff_lt,hix,wrapI (x := (t : Int) + 1) (by omega) (by omega),decide_true,decide_false]
                refine hN15 _ ?_; try clear hN15 hD15 N15
                refine WC_ret ?_; (try simp only [Exit.after,Exit.out]); refine Kend_ret (by simp only [resOf,resL,resV,mkS_get,slots_get,cellsOf,ti3,sS,↓sT,if_true,if_false,Nat.reduceLT,Nat.reduceEqDiff]; rfl) (by first | rfl | (simp only [ti3]; done) | (simp only [ti3,okV,ok1,okC,okP,List.all_cons,List.all_nil,Bool.and_true]; done)) ?_
                clear hN11 hD11 N11 hN6 hD6 N6
                rw [keep_bool,nameB_cons hc]
                first | (simp_all; done) | (simp_all; omega) | (rw [all_false hc2 (by simp_all [signB,digitB] <;> omega)]; simp) | skip
              · refine WC_skip ?_
                refine hN11 _ ?_; try clear hN11 hD11 N11
                refine WC_regN (fun N16 hN16 => ?_)
                simp only [sS,↓sT,if_true,if_false,Nat.reduceLT,Nat.reduceEqDiff,↓sO,↓WOps_g,sG,opV,loudV,cellsOf,strOp,evL,Nat.reduceAdd,beq_self_eq_true,bne_self_eq_false,Int.reduceBEq,Int.reduceBNe,len_strN,bs_mk,str_ix0 hc,gt_iff_lt,hix,wrapI (x := (t : Int) + 1) (by omega) (by omega),decide_true,decide_false]
                refine hN16 _ ?_; try clear hN16 N16
                refine ⟨t + 1,⟨_,rfl,⟨rfl,rfl,rfl,trivial⟩,ht, ?_⟩,by omega⟩
                rw [all_take hc2,htk]; simp_all [signB,digitB]
            · simp only [sS,↓sT,if_true,if_false,Nat.reduceLT,Nat.reduceEqDiff,↓sO,↓WOps_g,sG,opV,loudV,cellsOf,strOp,evL,Nat.reduceAdd,beq_self_eq_true,bne_self_eq_false,Int.reduceBEq,Int.reduceBNe,ti9,len_strN,bs_mk,str_ix0 hc,gt_iff_lt,hix,wrapI (x := (t : Int) + 1) (by omega) (by omega),hg13_5,hg13_10,decide_true,decide_false]
              refine hN13 _ ?_; try clear hN13 hD13 N13
              refine WC_condE ?_
              simp only [sS,↓sT,if_true,if_false,Nat.reduceLT,Nat.reduceEqDiff,↓stepC_bool]
              refine ⟨fun hb => ?_,fun hb => (by cases hb)⟩
              refine WC_seqR (fun N17 hN17 hD17 => ?_)
              simp only [sS,↓sT,if_true,if_false,Nat.reduceLT,Nat.reduceEqDiff,↓sO,↓WOps_g,sG,opV,loudV,cellsOf,strOp,evL,Nat.reduceAdd,beq_self_eq_true,bne_self_eq_false,Int.reduceBEq,Int.reduceBNe,len_strN,bs_mk,str_ix0 hc,gt_iff_lt,hix,wrapI (x := (t : Int) + 1) (by omega) (by omega),decide_true,decide_false]
              refine hN17 _ ?_; try clear hN17 hD17 N17
              refine WC_ret ?_; (try simp only [Exit.after,Exit.out]); refine Kend_ret (by simp only [resOf,resL,resV,mkS_get,slots_get,cellsOf,ti3,sS,↓sT,if_true,if_false,Nat.reduceLT,Nat.reduceEqDiff]; rfl) (by first | rfl | (simp only [ti3]; done) | (simp only [ti3,okV,ok1,okC,okP,List.all_cons,List.all_nil,Bool.and_true]; done)) ?_
              clear hN11 hD11 N11 hN6 hD6 N6
              rw [keep_bool,nameB_cons hc]
              first | (simp_all; done) | (simp_all; omega) | (rw [all_false hc2 (by simp_all [signB,digitB] <;> omega)]; simp) | skip
          · simp only [sS,↓sT,if_true,if_false,Nat.reduceLT,Nat.reduceEqDiff,↓sO,↓WOps_g,sG,opV,loudV,cellsOf,strOp,evL,Nat.reduceAdd,beq_self_eq_true,bne_self_eq_false,Int.reduceBEq,Int.reduceBNe,ti9,len_strN,bs_mk,str_ix0 hc,gt_iff_lt,hix,wrapI (x := (t : Int) + 1) (by omega) (by omega),hg13_5,decide_true,decide_false]
            refine hN13 _ ?_; try clear hN13 hD13 N13
            refine WC_condE ?_
            simp only [sS,↓sT,if_true,if_false,Nat.reduceLT,Nat.reduceEqDiff,↓stepC_bool]
            refine ⟨fun hb => (by cases hb),fun hb => ?_⟩
            refine WC_skip ?_
            refine hN11 _ ?_; try clear hN11 hD11 N11
            refine WC_regN (fun N18 hN18 => ?_)
            simp only [sS,↓sT,if_true,if_false,Nat.reduceLT,Nat.reduceEqDiff,↓sO,↓WOps_g,sG,opV,loudV,cellsOf,strOp,evL,Nat.reduceAdd,beq_self_eq_true,bne_self_eq_false,Int.reduceBEq,Int.reduceBNe,len_strN,bs_mk,str_ix0 hc,gt_iff_lt,hix,wrapI (x := (t : Int) + 1) (by omega) (by omega),decide_true,decide_false]
            refine hN18 _ ?_; try clear hN18 N18
            refine ⟨t + 1,⟨_,rfl,⟨rfl,rfl,rfl,trivial⟩,ht, ?_⟩,by omega⟩
            rw [all_take hc2,htk]; simp_all [signB,digitB]
        · have ht : t = s.length := by have := of_decide_eq_false hb10; omega
          clear hb10
          refine WC_exit ?_
          refine hN6 _ ?_; try clear hN6 hD6 N6
          refine WC_seqR (fun N19 hN19 hD19 => ?_)
          simp only [sS,↓sT,if_true,if_false,Nat.reduceLT,Nat.reduceEqDiff,↓sO,↓WOps_g,sG,opV,loudV,cellsOf,strOp,evL,Nat.reduceAdd,beq_self_eq_true,bne_self_eq_false,Int.reduceBEq,Int.reduceBNe,len_strN,bs_mk,str_ix0 hc,gt_iff_lt,decide_true,decide_false]
          refine hN19 _ ?_; try clear hN19 hD19 N19
          refine WC_ret ?_; (try simp only [Exit.after,Exit.out]); refine Kend_ret (by simp only [resOf,resL,resV,mkS_get,slots_get,cellsOf,ti3,sS,↓sT,if_true,if_false,Nat.reduceLT,Nat.reduceEqDiff]; rfl) (by first | rfl | (simp only [ti3]; done) | (simp only [ti3,okV,ok1,okC,okP,List.all_cons,List.all_nil,Bool.and_true]; done)) ?_
          clear hN9 hD9 N9
          rw [keep_bool,nameB_cons hc]
          first | (simp_all; done) | (simp_all; omega) | (rw [all_false hc2 (by simp_all [signB,digitB] <;> omega)]; simp) | skip
    · simp only [sS,↓sT,if_true,if_false,Nat.reduceLT,Nat.reduceEqDiff,↓sO,↓WOps_g,sG,opV,loudV,cellsOf,strOp,evL,Nat.reduceAdd,beq_self_eq_true,bne_self_eq_false,Int.reduceBEq,Int.reduceBNe,ti9,len_strN,bs_mk,str_ix0 hc,gt_iff_lt,hg3_2,hg3_7,decide_true,decide_false]
      refine hN3 _ ?_; try clear hN3 hD3 N3
      refine WC_condE ?_
      simp only [sS,↓sT,if_true,if_false,Nat.reduceLT,Nat.reduceEqDiff,↓stepC_bool]
      refine ⟨fun hb => ?_,fun hb => (by cases hb)⟩
      refine WC_seqR (fun N20 hN20 hD20 => ?_)
      simp only [sS,↓sT,if_true,if_false,Nat.reduceLT,Nat.reduceEqDiff,↓sO,↓WOps_g,sG,opV,loudV,cellsOf,strOp,evL,Nat.reduceAdd,beq_self_eq_true,bne_self_eq_false,Int.reduceBEq,Int.reduceBNe,len_strN,bs_mk,str_ix0 hc,gt_iff_lt,decide_true,decide_false]
      refine hN20 _ ?_; try clear hN20 hD20 N20
      refine WC_ret ?_; (try simp only [Exit.after,Exit.out]); refine Kend_ret (by simp only [resOf,resL,resV,mkS_get,slots_get,cellsOf,ti3,sS,↓sT,if_true,if_false,Nat.reduceLT,Nat.reduceEqDiff]; rfl) (by first | rfl | (simp only [ti3]; done) | (simp only [ti3,okV,ok1,okC,okP,List.all_cons,List.all_nil,Bool.and_true]; done)) ?_
      clear hN2 hD2 N2
      rw [keep_bool,nameB_cons hc]
      first | (simp_all; done) | (simp_all; omega) | (rw [all_false hc2 (by simp_all [signB,digitB] <;> omega)]; simp) | skip
  · simp only [sS,↓sT,if_true,if_false,Nat.reduceLT,Nat.reduceEqDiff,↓sO,↓WOps_g,sG,opV,loudV,cellsOf,strOp,evL,Nat.reduceAdd,beq_self_eq_true,bne_self_eq_false,Int.reduceBEq,Int.reduceBNe,ti9,len_strN,bs_mk,str_ix0 hc,gt_iff_lt,hg3_2,decide_true,decide_false]
    refine hN3 _ ?_; try clear hN3 hD3 N3
    refine WC_condE ?_
    simp only [sS,↓sT,if_true,if_false,Nat.reduceLT,Nat.reduceEqDiff,↓stepC_bool]
    refine ⟨fun hb => ?_,fun hb => (by cases hb)⟩
    refine WC_seqR (fun N21 hN21 hD21 => ?_)
    simp only [sS,↓sT,if_true,if_false,Nat.reduceLT,Nat.reduceEqDiff,↓sO,↓WOps_g,sG,opV,loudV,cellsOf,strOp,evL,Nat.reduceAdd,beq_self_eq_true,bne_self_eq_false,Int.reduceBEq,Int.reduceBNe,len_strN,bs_mk,str_ix0 hc,gt_iff_lt,decide_true,decide_false]
    refine hN21 _ ?_; try clear hN21 hD21 N21
    refine WC_ret ?_; (try simp only [Exit.after,Exit.out]); refine Kend_ret (by simp only [resOf,resL,resV,mkS_get,slots_get,cellsOf,ti3,sS,↓sT,if_true,if_false,Nat.reduceLT,Nat.reduceEqDiff]; rfl) (by first | rfl | (simp only [ti3]; done) | (simp only [ti3,okV,ok1,okC,okP,List.all_cons,List.all_nil,Bool.and_true]; done)) ?_
    clear hN2 hD2 N2
    rw [keep_bool,nameB_cons hc]
    first | (simp_all; done) | (simp_all; omega) | (rw [all_false hc2 (by simp_all [signB,digitB] <;> omega)]; simp) | skip
theorem c_name (s : List UInt8) : VC Try.prog 58 [.str s] [] (fun r _ => r = .bool (nameB s)) := by
  cases s with
  | nil => exact VC_closed (tab := tab) 10000 20 mixed names tabOk rfl rfl rfl rfl (by kernel_rfl)
  | cons c s => exact c_punnet_name_Name _ c rfl
theorem name_leaf {s : List UInt8} {c c2 : UInt8} {t : Nat} (hc2 : s[t]? = some c2) (h0 : t = 0 → c2 = c) (hl : letterB c2.toNat = false) (hd : digitB c2.toNat = false ∨ t = 0) : (decide (s.length ≤ 12) && letterB c.toNat && s.all signB) = false := by
  rcases hd with hd | hz
  · rw [all_false hc2 (by rw [signB,hl,hd]; rfl)]; simp
  · obtain rfl := h0 hz
    rw [hl]; simp
theorem c_punnet_punnetref05_Name (s : List UInt8) (c : UInt8) (hc : s[0]? = some c) : VC Try.prog 66 [.str s] [] (fun r _ => r = .bool (nameB s)) := by
  refine VC_enter (nt := 50) (rs := [.tmp 2]) (ow := []) (m := 0) Try.func66 rfl (by rfl) rfl rfl (by simp) rfl rfl (fun n => ?_)
  simp only [zipT,Nat.zero_add]
  have hpos : 0 < s.length := (List.getElem?_eq_some_iff.1 hc).1
  refine WC_seqR (fun N1 hN1 hD1 => ?_)
  simp only [sS,↓sT,if_true,if_false,Nat.reduceLT,Nat.reduceEqDiff,↓sO,↓WOps_g,sG,opV,loudV,cellsOf,strOp,evL,Nat.reduceAdd,beq_self_eq_true,bne_self_eq_false,Int.reduceBEq,Int.reduceBNe,len_strN,bs_mk,gt_iff_lt,decide_true,decide_false]
  refine hN1 _ ?_; try clear hN1 hD1 N1
  refine WC_seqN (fun N2 hN2 hD2 => ?_)
  refine WC_seqR (fun N3 hN3 hD3 => ?_)
  simp only [sS,↓sT,if_true,if_false,Nat.reduceLT,Nat.reduceEqDiff,↓sO,↓WOps_g,sG,opV,loudV,cellsOf,strOp,evL,Nat.reduceAdd,beq_self_eq_true,bne_self_eq_false,Int.reduceBEq,Int.reduceBNe,ti9,len_strN,bs_mk,gt_iff_lt,decide_true,decide_false]
  refine stepB_F (fun hg3_3 => ?_) (fun hg3_3 => ?_)
  · simp only [sS,↓sT,if_true,if_false,Nat.reduceLT,Nat.reduceEqDiff,↓sO,↓WOps_g,sG,opV,loudV,cellsOf,strOp,evL,Nat.reduceAdd,beq_self_eq_true,bne_self_eq_false,Int.reduceBEq,Int.reduceBNe,ti9,len_strN,bs_mk,gt_iff_lt,hg3_3,decide_true,decide_false]
    refine hN3 _ ?_; try clear hN3 hD3 N3
    refine WC_condE ?_
    simp only [sS,↓sT,if_true,if_false,Nat.reduceLT,Nat.reduceEqDiff,↓stepC_bool]
    refine ⟨fun hb4 => ?_,fun hb4 => ?_⟩
    · refine WC_seqR (fun N5 hN5 hD5 => ?_)
      simp only [sS,↓sT,if_true,if_false,Nat.reduceLT,Nat.reduceEqDiff,↓sO,↓WOps_g,sG,opV,loudV,cellsOf,strOp,evL,Nat.reduceAdd,beq_self_eq_true,bne_self_eq_false,Int.reduceBEq,Int.reduceBNe,len_strN,bs_mk,gt_iff_lt,decide_true,decide_false]
      refine hN5 _ ?_; try clear hN5 hD5 N5
      refine WC_ret ?_; (try simp only [Exit.after,Exit.out]); refine Kend_ret (by simp only [resOf,resL,resV,mkS_get,slots_get,cellsOf,ti3,sS,↓sT,if_true,if_false,Nat.reduceLT,Nat.reduceEqDiff]; rfl) (by first | rfl | (simp only [ti3]; done) | (simp only [ti3,okV,ok1,okC,okP,List.all_cons,List.all_nil,Bool.and_true]; done)) ?_
      clear hN2 hD2 N2
      rw [keep_bool,nameB_cons hc]
      first
      | (exfalso; have := of_decide_eq_true hg3_3; omega)
      | (refine congrArg V.bool (name_leaf hc2 h0 ?_ ?_).symm
         · first | (simp_all [letterB]; done) | (simp_all [letterB]; omega)
         · first | (right; simp_all; done) | (left; simp_all [digitB]; done) | (left; simp_all [digitB]; omega))
      | (simp_all; done)
      | (simp_all; omega)
    · refine WC_skip ?_
      refine hN2 _ ?_; try clear hN2 hD2 N2
      refine WC_seqN (fun N6 hN6 hD6 => ?_)
      refine WC_seqR (fun N7 hN7 hD7 => ?_)
      simp only [sS,↓sT,if_true,if_false,Nat.reduceLT,Nat.reduceEqDiff,↓sO,↓WOps_g,sG,opV,loudV,cellsOf,strOp,evL,Nat.reduceAdd,beq_self_eq_true,bne_self_eq_false,Int.reduceBEq,Int.reduceBNe,len_strN,bs_mk,gt_iff_lt,decide_true,decide_false]
      refine hN7 _ ?_; try clear hN7 hD7 N7
      refine WC_block ?_
      refine WC_loopG (σ := Nat) (fun t s' => ∃ ps,s' = ⟨mkS 50 ps, [], [],n⟩ ∧ Has ps [(0, .str s),(3, .int .i64 t)] ∧ t ≤ s.length ∧ (s.take t).all signB = true ∧ (0 < t → letterB c.toNat = true)) (fun t => s.length - t) 0 ?_ (fun t s' hI => ?_)
      · exact ⟨_,rfl,⟨rfl,rfl,trivial⟩,by omega,rfl,fun h => by omega⟩
      obtain ⟨ps,rfl,hps,htl,htk,hhead⟩ := hI
      refine WC_has hps ?_; clear hps ps
      refine WC_seqN (fun N8 hN8 hD8 => ?_)
      refine WC_seqR (fun N9 hN9 hD9 => ?_)
      simp only [sS,↓sT,if_true,if_false,Nat.reduceLT,Nat.reduceEqDiff,↓sO,↓WOps_g,sG,opV,loudV,cellsOf,strOp,evL,Nat.reduceAdd,beq_self_eq_true,bne_self_eq_false,Int.reduceBEq,Int.reduceBNe,ti9,len_strN,bs_mk,gt_iff_lt,decide_true,decide_false]
      refine hN9 _ ?_; try clear hN9 hD9 N9
      refine WC_condE ?_
      simp only [sS,↓sT,if_true,if_false,Nat.reduceLT,Nat.reduceEqDiff,↓stepC_bool]
      refine ⟨fun hb10 => ?_,fun hb10 => ?_⟩
      · have ht : t < s.length := by have := of_decide_eq_true hb10; omega
        clear hb10
        obtain ⟨c2,hc2⟩ : ∃ c2,s[t]? = some c2 := ⟨_,List.getElem?_eq_getElem ht⟩
        have hix := str_ix hc2
        have h0 : t = 0 → c2 = c := fun h => by subst h; rw [hc] at hc2; exact (Option.some.inj hc2).symm
        have hlen : s.length ≤ 12 := by have := of_decide_eq_false hb4; omega
        refine WC_skip ?_
        refine hN8 _ ?_; try clear hN8 hD8 N8
        refine WC_seqN (fun N11 hN11 hD11 => ?_)
        refine WC_block ?_
        refine WC_seqR (fun N12 hN12 hD12 => ?_)
        simp only [sS,↓sT,if_true,if_false,Nat.reduceLT,Nat.reduceEqDiff,↓sO,↓WOps_g,sG,opV,loudV,cellsOf,strOp,evL,Nat.reduceAdd,beq_self_eq_true,bne_self_eq_false,Int.reduceBEq,Int.reduceBNe,ti9,len_strN,bs_mk,gt_iff_lt,hix,wrapI (x := (t : Int) + 1) (by omega) (by omega),decide_true,decide_false]
        refine stepB_T (fun hg12_4 => ?_) (fun hg12_4 => ?_)
        · simp only [sS,↓sT,if_true,if_false,Nat.reduceLT,Nat.reduceEqDiff,↓sO,↓WOps_g,sG,opV,loudV,cellsOf,strOp,evL,Nat.reduceAdd,beq_self_eq_true,bne_self_eq_false,Int.reduceBEq,Int.reduceBNe,ti9,len_strN,bs_mk,gt_iff_lt,hix,wrapI (x := (t : Int) + 1) (by omega) (by omega),hg12_4,decide_true,decide_false]
          refine hN12 _ ?_; try clear hN12 hD12 N12
          refine WC_seqR (fun N13 hN13 hD13 => ?_)
          simp only [sS,↓sT,if_true,if_false,Nat.reduceLT,Nat.reduceEqDiff,↓sO,↓WOps_g,sG,opV,loudV,cellsOf,strOp,evL,Nat.reduceAdd,beq_self_eq_true,bne_self_eq_false,Int.reduceBEq,Int.reduceBNe,ti9,len_strN,bs_mk,gt_iff_lt,hix,wrapI (x := (t : Int) + 1) (by omega) (by omega),decide_true,decide_false]
          refine stepB_T (fun hg13_4 => ?_) (fun hg13_4 => ?_)
          · simp only [sS,↓sT,if_true,if_false,Nat.reduceLT,Nat.reduceEqDiff,↓sO,↓WOps_g,sG,opV,loudV,cellsOf,strOp,evL,Nat.reduceAdd,beq_self_eq_true,bne_self_eq_false,Int.reduceBEq,Int.reduceBNe,ti9,len_strN,bs_mk,gt_iff_lt,hix,wrapI (x := (t : Int) + 1) (by omega) (by omega),hg13_4,decide_true,decide_false]
            refine hN13 _ ?_; try clear hN13 hD13 N13
            refine WC_seqR (fun N14 hN14 hD14 => ?_)
            simp only [sS,↓sT,if_true,if_false,Nat.reduceLT,Nat.reduceEqDiff,↓sO,↓WOps_g,sG,opV,loudV,cellsOf,strOp,evL,Nat.reduceAdd,beq_self_eq_true,bne_self_eq_false,Int.reduceBEq,Int.reduceBNe,len_strN,bs_mk,gt_iff_lt,hix,wrapI (x := (t : Int) + 1) (by omega) (by omega),decide_true,decide_false]
            refine stepB_T (fun hg14_2 => ?_) (fun hg14_2 => ?_)
            · simp only [sS,↓sT,if_true,if_false,Nat.reduceLT,Nat.reduceEqDiff,↓sO,↓WOps_g,sG,opV,loudV,cellsOf,strOp,evL,Nat.reduceAdd,beq_self_eq_true,bne_self_eq_false,Int.reduceBEq,Int.reduceBNe,len_strN,bs_mk,gt_iff_lt,hix,wrapI (x := (t : Int) + 1) (by omega) (by omega),hg14_2,decide_true,decide_false]
              refine stepB_F (fun hg14_5 => ?_) (fun hg14_5 => ?_)
              · simp only [sS,↓sT,if_true,if_false,Nat.reduceLT,Nat.reduceEqDiff,↓sO,↓WOps_g,sG,opV,loudV,cellsOf,strOp,evL,Nat.reduceAdd,beq_self_eq_true,bne_self_eq_false,Int.reduceBEq,Int.reduceBNe,len_strN,bs_mk,gt_iff_lt,hix,wrapI (x := (t : Int) + 1) (by omega) (by omega),hg14_2,hg14_5,decide_true,decide_false]
                refine hN14 _ ?_; try clear hN14 hD14 N14
                refine WC_condE ?_
                simp only [sS,↓sT,if_true,if_false,Nat.reduceLT,Nat.reduceEqDiff,↓stepC_bool]
                refine ⟨fun hb15 => ?_,fun hb15 => ?_⟩
                · refine WC_seqR (fun N16 hN16 hD16 => ?_)
                  simp only [sS,↓sT,if_true,if_false,Nat.reduceLT,Nat.reduceEqDiff,↓sO,↓WOps_g,sG,opV,loudV,cellsOf,strOp,evL,Nat.reduceAdd,beq_self_eq_true,bne_self_eq_false,Int.reduceBEq,Int.reduceBNe,len_strN,bs_mk,gt_iff_lt,hix,wrapI (x := (t : Int) + 1) (by omega) (by omega),decide_true,decide_false]
                  refine hN16 _ ?_; try clear hN16 hD16 N16
                  refine WC_ret ?_; (try simp only [Exit.after,Exit.out]); refine Kend_ret (by simp only [resOf,resL,resV,mkS_get,slots_get,cellsOf,ti3,sS,↓sT,if_true,if_false,Nat.reduceLT,Nat.reduceEqDiff]; rfl) (by first | rfl | (simp only [ti3]; done) | (simp only [ti3,okV,ok1,okC,okP,List.all_cons,List.all_nil,Bool.and_true]; done)) ?_
                  clear hN11 hD11 N11 hN6 hD6 N6
                  rw [keep_bool,nameB_cons hc]
                  first
                  | (exfalso; have := of_decide_eq_true hg3_3; omega)
                  | (refine congrArg V.bool (name_leaf hc2 h0 ?_ ?_).symm
                     · first | (simp_all [letterB]; done) | (simp_all [letterB]; omega)
                     · first | (right; simp_all; done) | (left; simp_all [digitB]; done) | (left; simp_all [digitB]; omega))
                  | (simp_all; done)
                  | (simp_all; omega)
                · refine WC_skip ?_
                  refine hN11 _ ?_; try clear hN11 hD11 N11
                  refine WC_regN (fun N17 hN17 => ?_)
                  simp only [sS,↓sT,if_true,if_false,Nat.reduceLT,Nat.reduceEqDiff,↓sO,↓WOps_g,sG,opV,loudV,cellsOf,strOp,evL,Nat.reduceAdd,beq_self_eq_true,bne_self_eq_false,Int.reduceBEq,Int.reduceBNe,len_strN,bs_mk,gt_iff_lt,hix,wrapI (x := (t : Int) + 1) (by omega) (by omega),decide_true,decide_false]
                  refine hN17 _ ?_; try clear hN17 N17
                  refine ⟨t + 1,⟨_,rfl,⟨rfl,rfl,trivial⟩,ht, ?_,fun _ => ?_⟩,by omega⟩
                  · rw [all_take hc2,htk]; simp_all [signB,digitB,letterB] <;> omega
                  · rcases Nat.eq_zero_or_pos t with h | h
                    · obtain rfl := h0 h; first | (simp_all [letterB]; done) | (simp_all [letterB] <;> omega)
                    · exact hhead h
              · simp only [sS,↓sT,if_true,if_false,Nat.reduceLT,Nat.reduceEqDiff,↓sO,↓WOps_g,sG,opV,loudV,cellsOf,strOp,evL,Nat.reduceAdd,beq_self_eq_true,bne_self_eq_false,Int.reduceBEq,Int.reduceBNe,len_strN,bs_mk,gt_iff_lt,hix,wrapI (x := (t : Int) + 1) (by omega) (by omega),hg14_2,hg14_5,decide_true,decide_false]
                refine hN14 _ ?_; try clear hN14 hD14 N14
                refine WC_condE ?_
                simp only [sS,↓sT,if_true,if_false,Nat.reduceLT,Nat.reduceEqDiff,↓stepC_bool]
                refine ⟨fun hb => ?_,fun hb => (by cases hb)⟩
                refine WC_seqR (fun N18 hN18 hD18 => ?_)
                simp only [sS,↓sT,if_true,if_false,Nat.reduceLT,Nat.reduceEqDiff,↓sO,↓WOps_g,sG,opV,loudV,cellsOf,strOp,evL,Nat.reduceAdd,beq_self_eq_true,bne_self_eq_false,Int.reduceBEq,Int.reduceBNe,len_strN,bs_mk,gt_iff_lt,hix,wrapI (x := (t : Int) + 1) (by omega) (by omega),decide_true,decide_false]
                refine hN18 _ ?_; try clear hN18 hD18 N18
                refine WC_ret ?_; (try simp only [Exit.after,Exit.out]); refine Kend_ret (by simp only [resOf,resL,resV,mkS_get,slots_get,cellsOf,ti3,sS,↓sT,if_true,if_false,Nat.reduceLT,Nat.reduceEqDiff]; rfl) (by first | rfl | (simp only [ti3]; done) | (simp only [ti3,okV,ok1,okC,okP,List.all_cons,List.all_nil,Bool.and_true]; done)) ?_
                clear hN11 hD11 N11 hN6 hD6 N6
                rw [keep_bool,nameB_cons hc]
                first
                | (exfalso; have := of_decide_eq_true hg3_3; omega)
                | (refine congrArg V.bool (name_leaf hc2 h0 ?_ ?_).symm
                   · first | (simp_all [letterB]; done) | (simp_all [letterB]; omega)
                   · first | (right; simp_all; done) | (left; simp_all [digitB]; done) | (left; simp_all [digitB]; omega))
                | (simp_all; done)
                | (simp_all; omega)
            · simp only [sS,↓sT,if_true,if_false,Nat.reduceLT,Nat.reduceEqDiff,↓sO,↓WOps_g,sG,opV,loudV,cellsOf,strOp,evL,Nat.reduceAdd,beq_self_eq_true,bne_self_eq_false,Int.reduceBEq,Int.reduceBNe,len_strN,bs_mk,gt_iff_lt,hix,wrapI (x := (t : Int) + 1) (by omega) (by omega),hg14_2,decide_true,decide_false]
              refine hN14 _ ?_; try clear hN14 hD14 N14
              refine WC_condE ?_
              simp only [sS,↓sT,if_true,if_false,Nat.reduceLT,Nat.reduceEqDiff,↓stepC_bool]
              refine ⟨fun hb => (by cases hb),fun hb => ?_⟩
              refine WC_skip ?_
              refine hN11 _ ?_; try clear hN11 hD11 N11
              refine WC_regN (fun N19 hN19 => ?_)
              simp only [sS,↓sT,if_true,if_false,Nat.reduceLT,Nat.reduceEqDiff,↓sO,↓WOps_g,sG,opV,loudV,cellsOf,strOp,evL,Nat.reduceAdd,beq_self_eq_true,bne_self_eq_false,Int.reduceBEq,Int.reduceBNe,len_strN,bs_mk,gt_iff_lt,hix,wrapI (x := (t : Int) + 1) (by omega) (by omega),decide_true,decide_false]
              refine hN19 _ ?_; try clear hN19 N19
              refine ⟨t + 1,⟨_,rfl,⟨rfl,rfl,trivial⟩,ht, ?_,fun _ => ?_⟩,by omega⟩
              · rw [all_take hc2,htk]; simp_all [signB,digitB,letterB] <;> omega
              · rcases Nat.eq_zero_or_pos t with h | h
                · obtain rfl := h0 h; first | (simp_all [letterB]; done) | (simp_all [letterB] <;> omega)
                · exact hhead h
          · simp only [sS,↓sT,if_true,if_false,Nat.reduceLT,Nat.reduceEqDiff,↓sO,↓WOps_g,sG,opV,loudV,cellsOf,strOp,evL,Nat.reduceAdd,beq_self_eq_true,bne_self_eq_false,Int.reduceBEq,Int.reduceBNe,ti9,len_strN,bs_mk,gt_iff_lt,hix,wrapI (x := (t : Int) + 1) (by omega) (by omega),hg13_4,decide_true,decide_false]
            refine hN13 _ ?_; try clear hN13 hD13 N13
            refine WC_seqR (fun N20 hN20 hD20 => ?_)
            simp only [sS,↓sT,if_true,if_false,Nat.reduceLT,Nat.reduceEqDiff,↓sO,↓WOps_g,sG,opV,loudV,cellsOf,strOp,evL,Nat.reduceAdd,beq_self_eq_true,bne_self_eq_false,Int.reduceBEq,Int.reduceBNe,len_strN,bs_mk,gt_iff_lt,hix,wrapI (x := (t : Int) + 1) (by omega) (by omega),decide_true,decide_false]
            refine stepB_T (fun hg20_2 => ?_) (fun hg20_2 => ?_)
            · simp only [sS,↓sT,if_true,if_false,Nat.reduceLT,Nat.reduceEqDiff,↓sO,↓WOps_g,sG,opV,loudV,cellsOf,strOp,evL,Nat.reduceAdd,beq_self_eq_true,bne_self_eq_false,Int.reduceBEq,Int.reduceBNe,len_strN,bs_mk,gt_iff_lt,hix,wrapI (x := (t : Int) + 1) (by omega) (by omega),hg20_2,decide_true,decide_false]
              refine hN20 _ ?_; try clear hN20 hD20 N20
              refine WC_condE ?_
              simp only [sS,↓sT,if_true,if_false,Nat.reduceLT,Nat.reduceEqDiff,↓stepC_bool]
              refine ⟨fun hb => ?_,fun hb => (by cases hb)⟩
              refine WC_seqR (fun N21 hN21 hD21 => ?_)
              simp only [sS,↓sT,if_true,if_false,Nat.reduceLT,Nat.reduceEqDiff,↓sO,↓WOps_g,sG,opV,loudV,cellsOf,strOp,evL,Nat.reduceAdd,beq_self_eq_true,bne_self_eq_false,Int.reduceBEq,Int.reduceBNe,len_strN,bs_mk,gt_iff_lt,hix,wrapI (x := (t : Int) + 1) (by omega) (by omega),decide_true,decide_false]
              refine hN21 _ ?_; try clear hN21 hD21 N21
              refine WC_ret ?_; (try simp only [Exit.after,Exit.out]); refine Kend_ret (by simp only [resOf,resL,resV,mkS_get,slots_get,cellsOf,ti3,sS,↓sT,if_true,if_false,Nat.reduceLT,Nat.reduceEqDiff]; rfl) (by first | rfl | (simp only [ti3]; done) | (simp only [ti3,okV,ok1,okC,okP,List.all_cons,List.all_nil,Bool.and_true]; done)) ?_
              clear hN11 hD11 N11 hN6 hD6 N6
              rw [keep_bool,nameB_cons hc]
              first
              | (exfalso; have := of_decide_eq_true hg3_3; omega)
              | (refine congrArg V.bool (name_leaf hc2 h0 ?_ ?_).symm
                 · first | (simp_all [letterB]; done) | (simp_all [letterB]; omega)
                 · first | (right; simp_all; done) | (left; simp_all [digitB]; done) | (left; simp_all [digitB]; omega))
              | (simp_all; done)
              | (simp_all; omega)
            · simp only [sS,↓sT,if_true,if_false,Nat.reduceLT,Nat.reduceEqDiff,↓sO,↓WOps_g,sG,opV,loudV,cellsOf,strOp,evL,Nat.reduceAdd,beq_self_eq_true,bne_self_eq_false,Int.reduceBEq,Int.reduceBNe,len_strN,bs_mk,gt_iff_lt,hix,wrapI (x := (t : Int) + 1) (by omega) (by omega),hg20_2,decide_true,decide_false]
              refine hN20 _ ?_; try clear hN20 hD20 N20
              refine WC_condE ?_
              simp only [sS,↓sT,if_true,if_false,Nat.reduceLT,Nat.reduceEqDiff,↓stepC_bool]
              refine ⟨fun hb => (by cases hb),fun hb => ?_⟩
              refine WC_skip ?_
              refine hN11 _ ?_; try clear hN11 hD11 N11
              refine WC_regN (fun N22 hN22 => ?_)
              simp only [sS,↓sT,if_true,if_false,Nat.reduceLT,Nat.reduceEqDiff,↓sO,↓WOps_g,sG,opV,loudV,cellsOf,strOp,evL,Nat.reduceAdd,beq_self_eq_true,bne_self_eq_false,Int.reduceBEq,Int.reduceBNe,len_strN,bs_mk,gt_iff_lt,hix,wrapI (x := (t : Int) + 1) (by omega) (by omega),decide_true,decide_false]
              refine hN22 _ ?_; try clear hN22 N22
              refine ⟨t + 1,⟨_,rfl,⟨rfl,rfl,trivial⟩,ht, ?_,fun _ => ?_⟩,by omega⟩
              · rw [all_take hc2,htk]; simp_all [signB,digitB,letterB] <;> omega
              · rcases Nat.eq_zero_or_pos t with h | h
                · obtain rfl := h0 h; first | (simp_all [letterB]; done) | (simp_all [letterB] <;> omega)
                · exact hhead h
        · simp only [sS,↓sT,if_true,if_false,Nat.reduceLT,Nat.reduceEqDiff,↓sO,↓WOps_g,sG,opV,loudV,cellsOf,strOp,evL,Nat.reduceAdd,beq_self_eq_true,bne_self_eq_false,Int.reduceBEq,Int.reduceBNe,ti9,len_strN,bs_mk,gt_iff_lt,hix,wrapI (x := (t : Int) + 1) (by omega) (by omega),hg12_4,decide_true,decide_false]
          refine hN12 _ ?_; try clear hN12 hD12 N12
          refine WC_seqR (fun N23 hN23 hD23 => ?_)
          simp only [sS,↓sT,if_true,if_false,Nat.reduceLT,Nat.reduceEqDiff,↓sO,↓WOps_g,sG,opV,loudV,cellsOf,strOp,evL,Nat.reduceAdd,beq_self_eq_true,bne_self_eq_false,Int.reduceBEq,Int.reduceBNe,ti9,len_strN,bs_mk,gt_iff_lt,hix,wrapI (x := (t : Int) + 1) (by omega) (by omega),decide_true,decide_false]
          refine stepB_T (fun hg23_4 => ?_) (fun hg23_4 => ?_)
          · simp only [sS,↓sT,if_true,if_false,Nat.reduceLT,Nat.reduceEqDiff,↓sO,↓WOps_g,sG,opV,loudV,cellsOf,strOp,evL,Nat.reduceAdd,beq_self_eq_true,bne_self_eq_false,Int.reduceBEq,Int.reduceBNe,ti9,len_strN,bs_mk,gt_iff_lt,hix,wrapI (x := (t : Int) + 1) (by omega) (by omega),hg23_4,decide_true,decide_false]
            refine hN23 _ ?_; try clear hN23 hD23 N23
            refine WC_seqR (fun N24 hN24 hD24 => ?_)
            simp only [sS,↓sT,if_true,if_false,Nat.reduceLT,Nat.reduceEqDiff,↓sO,↓WOps_g,sG,opV,loudV,cellsOf,strOp,evL,Nat.reduceAdd,beq_self_eq_true,bne_self_eq_false,Int.reduceBEq,Int.reduceBNe,len_strN,bs_mk,gt_iff_lt,hix,wrapI (x := (t : Int) + 1) (by omega) (by omega),decide_true,decide_false]
            refine stepB_F (fun hg24_5 => ?_) (fun hg24_5 => ?_)
            · simp only [sS,↓sT,if_true,if_false,Nat.reduceLT,Nat.reduceEqDiff,↓sO,↓WOps_g,sG,opV,loudV,cellsOf,strOp,evL,Nat.reduceAdd,beq_self_eq_true,bne_self_eq_false,Int.reduceBEq,Int.reduceBNe,len_strN,bs_mk,gt_iff_lt,hix,wrapI (x := (t : Int) + 1) (by omega) (by omega),hg24_5,decide_true,decide_false]
              refine hN24 _ ?_; try clear hN24 hD24 N24
              refine WC_condE ?_
              simp only [sS,↓sT,if_true,if_false,Nat.reduceLT,Nat.reduceEqDiff,↓stepC_bool]
              refine ⟨fun hb25 => ?_,fun hb25 => ?_⟩
              · refine WC_seqR (fun N26 hN26 hD26 => ?_)
                simp only [sS,↓sT,if_true,if_false,Nat.reduceLT,Nat.reduceEqDiff,↓sO,↓WOps_g,sG,opV,loudV,cellsOf,strOp,evL,Nat.reduceAdd,beq_self_eq_true,bne_self_eq_false,Int.reduceBEq,Int.reduceBNe,len_strN,bs_mk,gt_iff_lt,hix,wrapI (x := (t : Int) + 1) (by omega) (by omega),decide_true,decide_false]
                refine hN26 _ ?_; try clear hN26 hD26 N26
                refine WC_ret ?_; (try simp only [Exit.after,Exit.out]); refine Kend_ret (by simp only [resOf,resL,resV,mkS_get,slots_get,cellsOf,ti3,sS,↓sT,if_true,if_false,Nat.reduceLT,Nat.reduceEqDiff]; rfl) (by first | rfl | (simp only [ti3]; done) | (simp only [ti3,okV,ok1,okC,okP,List.all_cons,List.all_nil,Bool.and_true]; done)) ?_
                clear hN11 hD11 N11 hN6 hD6 N6
                rw [keep_bool,nameB_cons hc]
                first
                | (exfalso; have := of_decide_eq_true hg3_3; omega)
                | (refine congrArg V.bool (name_leaf hc2 h0 ?_ ?_).symm
                   · first | (simp_all [letterB]; done) | (simp_all [letterB]; omega)
                   · first | (right; simp_all; done) | (left; simp_all [digitB]; done) | (left; simp_all [digitB]; omega))
                | (simp_all; done)
                | (simp_all; omega)
              · refine WC_skip ?_
                refine hN11 _ ?_; try clear hN11 hD11 N11
                refine WC_regN (fun N27 hN27 => ?_)
                simp only [sS,↓sT,if_true,if_false,Nat.reduceLT,Nat.reduceEqDiff,↓sO,↓WOps_g,sG,opV,loudV,cellsOf,strOp,evL,Nat.reduceAdd,beq_self_eq_true,bne_self_eq_false,Int.reduceBEq,Int.reduceBNe,len_strN,bs_mk,gt_iff_lt,hix,wrapI (x := (t : Int) + 1) (by omega) (by omega),decide_true,decide_false]
                refine hN27 _ ?_; try clear hN27 N27
                refine ⟨t + 1,⟨_,rfl,⟨rfl,rfl,trivial⟩,ht, ?_,fun _ => ?_⟩,by omega⟩
                · rw [all_take hc2,htk]; simp_all [signB,digitB,letterB] <;> omega
                · rcases Nat.eq_zero_or_pos t with h | h
                  · obtain rfl := h0 h; first | (simp_all [letterB]; done) | (simp_all [letterB] <;> omega)
                  · exact hhead h
            · simp only [sS,↓sT,if_true,if_false,Nat.reduceLT,Nat.reduceEqDiff,↓sO,↓WOps_g,sG,opV,loudV,cellsOf,strOp,evL,Nat.reduceAdd,beq_self_eq_true,bne_self_eq_false,Int.reduceBEq,Int.reduceBNe,len_strN,bs_mk,gt_iff_lt,hix,wrapI (x := (t : Int) + 1) (by omega) (by omega),hg24_5,decide_true,decide_false]
              refine hN24 _ ?_; try clear hN24 hD24 N24
              refine WC_condE ?_
              simp only [sS,↓sT,if_true,if_false,Nat.reduceLT,Nat.reduceEqDiff,↓stepC_bool]
              refine ⟨fun hb => ?_,fun hb => (by cases hb)⟩
              refine WC_seqR (fun N28 hN28 hD28 => ?_)
              simp only [sS,↓sT,if_true,if_false,Nat.reduceLT,Nat.reduceEqDiff,↓sO,↓WOps_g,sG,opV,loudV,cellsOf,strOp,evL,Nat.reduceAdd,beq_self_eq_true,bne_self_eq_false,Int.reduceBEq,Int.reduceBNe,len_strN,bs_mk,gt_iff_lt,hix,wrapI (x := (t : Int) + 1) (by omega) (by omega),decide_true,decide_false]
              refine hN28 _ ?_; try clear hN28 hD28 N28
              refine WC_ret ?_; (try simp only [Exit.after,Exit.out]); refine Kend_ret (by simp only [resOf,resL,resV,mkS_get,slots_get,cellsOf,ti3,sS,↓sT,if_true,if_false,Nat.reduceLT,Nat.reduceEqDiff]; rfl) (by first | rfl | (simp only [ti3]; done) | (simp only [ti3,okV,ok1,okC,okP,List.all_cons,List.all_nil,Bool.and_true]; done)) ?_
              clear hN11 hD11 N11 hN6 hD6 N6
              rw [keep_bool,nameB_cons hc]
              first
              | (exfalso; have := of_decide_eq_true hg3_3; omega)
              | (refine congrArg V.bool (name_leaf hc2 h0 ?_ ?_).symm
                 · first | (simp_all [letterB]; done) | (simp_all [letterB]; omega)
                 · first | (right; simp_all; done) | (left; simp_all [digitB]; done) | (left; simp_all [digitB]; omega))
              | (simp_all; done)
              | (simp_all; omega)
          · simp only [sS,↓sT,if_true,if_false,Nat.reduceLT,Nat.reduceEqDiff,↓sO,↓WOps_g,sG,opV,loudV,cellsOf,strOp,evL,Nat.reduceAdd,beq_self_eq_true,bne_self_eq_false,Int.reduceBEq,Int.reduceBNe,ti9,len_strN,bs_mk,gt_iff_lt,hix,wrapI (x := (t : Int) + 1) (by omega) (by omega),hg23_4,decide_true,decide_false]
            refine hN23 _ ?_; try clear hN23 hD23 N23
            refine WC_seqR (fun N29 hN29 hD29 => ?_)
            simp only [sS,↓sT,if_true,if_false,Nat.reduceLT,Nat.reduceEqDiff,↓sO,↓WOps_g,sG,opV,loudV,cellsOf,strOp,evL,Nat.reduceAdd,beq_self_eq_true,bne_self_eq_false,Int.reduceBEq,Int.reduceBNe,len_strN,bs_mk,gt_iff_lt,hix,wrapI (x := (t : Int) + 1) (by omega) (by omega),decide_true,decide_false]
            refine hN29 _ ?_; try clear hN29 hD29 N29
            refine WC_condE ?_
            simp only [sS,↓sT,if_true,if_false,Nat.reduceLT,Nat.reduceEqDiff,↓stepC_bool]
            refine ⟨fun hb => ?_,fun hb => (by cases hb)⟩
            refine WC_seqR (fun N30 hN30 hD30 => ?_)
            simp only [sS,↓sT,if_true,if_false,Nat.reduceLT,Nat.reduceEqDiff,↓sO,↓WOps_g,sG,opV,loudV,cellsOf,strOp,evL,Nat.reduceAdd,beq_self_eq_true,bne_self_eq_false,Int.reduceBEq,Int.reduceBNe,len_strN,bs_mk,gt_iff_lt,hix,wrapI (x := (t : Int) + 1) (by omega) (by omega),decide_true,decide_false]
            refine hN30 _ ?_; try clear hN30 hD30 N30
            refine WC_ret ?_; (try simp only [Exit.after,Exit.out]); refine Kend_ret (by simp only [resOf,resL,resV,mkS_get,slots_get,cellsOf,ti3,sS,↓sT,if_true,if_false,Nat.reduceLT,Nat.reduceEqDiff]; rfl) (by first | rfl | (simp only [ti3]; done) | (simp only [ti3,okV,ok1,okC,okP,List.all_cons,List.all_nil,Bool.and_true]; done)) ?_
            clear hN11 hD11 N11 hN6 hD6 N6
            rw [keep_bool,nameB_cons hc]
            first
            | (exfalso; have := of_decide_eq_true hg3_3; omega)
            | (refine congrArg V.bool (name_leaf hc2 h0 ?_ ?_).symm
               · first | (simp_all [letterB]; done) | (simp_all [letterB]; omega)
               · first | (right; simp_all; done) | (left; simp_all [digitB]; done) | (left; simp_all [digitB]; omega))
            | (simp_all; done)
            | (simp_all; omega)
      · have ht : t = s.length := by have := of_decide_eq_false hb10; omega
        have hhd := hhead (by omega)
        clear hb10
        refine WC_exit ?_
        refine hN6 _ ?_; try clear hN6 hD6 N6
        refine WC_seqR (fun N31 hN31 hD31 => ?_)
        simp only [sS,↓sT,if_true,if_false,Nat.reduceLT,Nat.reduceEqDiff,↓sO,↓WOps_g,sG,opV,loudV,cellsOf,strOp,evL,Nat.reduceAdd,beq_self_eq_true,bne_self_eq_false,Int.reduceBEq,Int.reduceBNe,len_strN,bs_mk,gt_iff_lt,decide_true,decide_false]
        refine hN31 _ ?_; try clear hN31 hD31 N31
        refine WC_ret ?_; (try simp only [Exit.after,Exit.out]); refine Kend_ret (by simp only [resOf,resL,resV,mkS_get,slots_get,cellsOf,ti3,sS,↓sT,if_true,if_false,Nat.reduceLT,Nat.reduceEqDiff]; rfl) (by first | rfl | (simp only [ti3]; done) | (simp only [ti3,okV,ok1,okC,okP,List.all_cons,List.all_nil,Bool.and_true]; done)) ?_
        clear hN8 hD8 N8
        rw [keep_bool,nameB_cons hc]
        first
        | (exfalso; have := of_decide_eq_true hg3_3; omega)
        | (refine congrArg V.bool (name_leaf hc2 h0 ?_ ?_).symm
           · first | (simp_all [letterB]; done) | (simp_all [letterB]; omega)
           · first | (right; simp_all; done) | (left; simp_all [digitB]; done) | (left; simp_all [digitB]; omega))
        | (simp_all; done)
        | (simp_all; omega)
  · simp only [sS,↓sT,if_true,if_false,Nat.reduceLT,Nat.reduceEqDiff,↓sO,↓WOps_g,sG,opV,loudV,cellsOf,strOp,evL,Nat.reduceAdd,beq_self_eq_true,bne_self_eq_false,Int.reduceBEq,Int.reduceBNe,ti9,len_strN,bs_mk,gt_iff_lt,hg3_3,decide_true,decide_false]
    refine hN3 _ ?_; try clear hN3 hD3 N3
    refine WC_condE ?_
    simp only [sS,↓sT,if_true,if_false,Nat.reduceLT,Nat.reduceEqDiff,↓stepC_bool]
    refine ⟨fun hb => ?_,fun hb => (by cases hb)⟩
    refine WC_seqR (fun N32 hN32 hD32 => ?_)
    simp only [sS,↓sT,if_true,if_false,Nat.reduceLT,Nat.reduceEqDiff,↓sO,↓WOps_g,sG,opV,loudV,cellsOf,strOp,evL,Nat.reduceAdd,beq_self_eq_true,bne_self_eq_false,Int.reduceBEq,Int.reduceBNe,len_strN,bs_mk,gt_iff_lt,decide_true,decide_false]
    refine hN32 _ ?_; try clear hN32 hD32 N32
    refine WC_ret ?_; (try simp only [Exit.after,Exit.out]); refine Kend_ret (by simp only [resOf,resL,resV,mkS_get,slots_get,cellsOf,ti3,sS,↓sT,if_true,if_false,Nat.reduceLT,Nat.reduceEqDiff]; rfl) (by first | rfl | (simp only [ti3]; done) | (simp only [ti3,okV,ok1,okC,okP,List.all_cons,List.all_nil,Bool.and_true]; done)) ?_
    clear hN2 hD2 N2
    rw [keep_bool,nameB_cons hc]
    first
    | (exfalso; have := of_decide_eq_true hg3_3; omega)
    | (refine congrArg V.bool (name_leaf hc2 h0 ?_ ?_).symm
       · first | (simp_all [letterB]; done) | (simp_all [letterB]; omega)
       · first | (right; simp_all; done) | (left; simp_all [digitB]; done) | (left; simp_all [digitB]; omega))
    | (simp_all; done)
    | (simp_all; omega)
theorem c_refname (s : List UInt8) : VC Try.prog 66 [.str s] [] (fun r _ => r = .bool (nameB s)) := by
  cases s with
  | nil => exact VC_closed (tab := tab) 10000 20 mixed names tabOk rfl rfl rfl rfl (by kernel_rfl)
  | cons c s => exact c_punnet_punnetref05_Name _ c rfl
end Go.PV
/- Places of fields. -/
namespace Go.PV
open Go.Proofs
set_option linter.unusedVariables false
set_option linter.unusedSimpArgs false
set_option maxRecDepth 10000
set_option maxHeartbeats 1000000

def refW (s : Int) (g n : List UInt8) : V := .agg [.int .i64 s, .str g, .str n]
theorem ref_cells (s : Int) (g n : List UInt8) : (refW s g n).cells = [.int .i64 s, .str g, .str n] := rfl
theorem ref_bare (s : Int) (g n : List UInt8) : (refW s g n).bare = refW s g n := rfl
theorem ref_noP (s : Int) (g n : List UInt8) : (refW s g n).noP = true := rfl
theorem ref_isC (s : Int) (g n : List UInt8) : ([.int .i64 s, .str g, .str n] : List V).all V.isCell = true := rfl
theorem ref_full (a b c d e f : V) : wrL [a, b, c] 0 [d, e, f] = [d, e, f] := rfl
theorem ref_load {l : List (Nat × TypeId)} {b : Nat} {z : Option (List V)} {s : Int} {g n : List UInt8} {rest : List V} : loadV ⟨.struct l, 3, b, z⟩ (.int .i64 s :: .str g :: .str n :: rest) = some (refW s g n) := by simp [loadV, TD.agg, refW]
theorem ref_fold (s : Int) (g n : List UInt8) : V.agg [.int .i64 s, .str g, .str n] = refW s g n := rfl
theorem ref_eql (s s' : Int) (g n g' n' : List UInt8) : binV Try.prog .eql 47 (refW s g n) (refW s' g' n') = some (.bool ((s == s') && ((g == g') && (n == n')))) := by
  simp [binV,eqlV,refW,ti47,eqK47,cellsEq,cellEq]
def placeB (s : Int) (g n : List UInt8) : Bool := (decide (s = 0) || decide (s = 1)) && (nameB n && (g == [] || nameB g))
theorem place_scope (s : Int) : (decide (s = 0) || decide (s = 1)) = (decide (0 ≤ s) && decide (s ≤ 1)) := by
  rw [Bool.eq_iff_iff]; simp; omega
theorem c_punnet_field_Place (s : Int) (g n0 : List UInt8) : VC Try.prog 59 [refW s g n0] [] (fun r _ => r = .bool (placeB s g n0)) := by
  refine VC_enter (nt := 28) (rs := [.tmp 2]) (ow := []) (m := 0) Try.func59 rfl (by rfl) rfl rfl (by simp) rfl rfl (fun n => ?_)
  simp only [zipT,Nat.zero_add]
  refine WC_seqR (fun N1 hN1 hD1 => ?_)
  simp only [sS,↓sT,if_true,if_false,Nat.reduceLT,Nat.reduceEqDiff,↓sO,↓WOps_g,sG,opV,loudV,cellsOf,strOp,evL,Nat.reduceAdd,beq_self_eq_true,bne_self_eq_false,Int.reduceBEq,Int.reduceBNe,len_strN,bs_mk,gt_iff_lt,ref_cells,ref_isC,ref_full,load_str,load_int,int_load,ti47,decide_true,decide_false]
  refine hN1 _ ?_; try clear hN1 hD1 N1
  refine WC_seqR (fun N2 hN2 hD2 => ?_)
  simp only [sS,↓sT,if_true,if_false,Nat.reduceLT,Nat.reduceEqDiff,↓sO,↓WOps_g,sG,opV,loudV,cellsOf,strOp,evL,Nat.reduceAdd,beq_self_eq_true,bne_self_eq_false,Int.reduceBEq,Int.reduceBNe,fa47_0,fr47_0,fv47_0,ti3,len_strN,bs_mk,gt_iff_lt,ref_cells,ref_isC,ref_full,load_str,load_int,int_load,ti47,decide_true,decide_false]
  refine stepB_F (fun hg2_3 => ?_) (fun hg2_3 => ?_)
  · simp only [sS,↓sT,if_true,if_false,Nat.reduceLT,Nat.reduceEqDiff,↓sO,↓WOps_g,sG,opV,loudV,cellsOf,strOp,evL,Nat.reduceAdd,beq_self_eq_true,bne_self_eq_false,Int.reduceBEq,Int.reduceBNe,fa47_0,fr47_0,fv47_0,ti3,len_strN,bs_mk,gt_iff_lt,ref_cells,ref_isC,ref_full,load_str,load_int,int_load,ti47,hg2_3,decide_true,decide_false]
    refine hN2 _ ?_; try clear hN2 hD2 N2
    refine WC_seqR (fun N3 hN3 hD3 => ?_)
    simp only [sS,↓sT,if_true,if_false,Nat.reduceLT,Nat.reduceEqDiff,↓sO,↓WOps_g,sG,opV,loudV,cellsOf,strOp,evL,Nat.reduceAdd,beq_self_eq_true,bne_self_eq_false,Int.reduceBEq,Int.reduceBNe,fa47_2,fr47_2,fv47_2,ti9,fa47_1,fr47_1,fv47_1,len_strN,bs_mk,gt_iff_lt,ref_cells,ref_isC,ref_full,load_str,load_int,int_load,ti47,decide_true,decide_false]
    refine stepB_T (fun hg3_1 => ?_) (fun hg3_1 => ?_)
    · simp only [sS,↓sT,if_true,if_false,Nat.reduceLT,Nat.reduceEqDiff,↓sO,↓WOps_g,sG,opV,loudV,cellsOf,strOp,evL,Nat.reduceAdd,beq_self_eq_true,bne_self_eq_false,Int.reduceBEq,Int.reduceBNe,fa47_2,fr47_2,fv47_2,ti9,fa47_1,fr47_1,fv47_1,len_strN,bs_mk,gt_iff_lt,ref_cells,ref_isC,ref_full,load_str,load_int,int_load,ti47,hg3_1,decide_true,decide_false]
      refine WOps_callP (c_name _) (by simp only [ev_func]) (by simp only [evL,sS,↓sT,if_true,if_false,Nat.reduceLT,Nat.reduceEqDiff]; rfl) (by first | rfl | (simp only [List.map,bare_int]; done) | (simp only [List.map,bare_int]; exact rfl)) (by first | rfl | simp [noP_int]) (by first | rfl | simp [noP_int]) rfl ?_
      simp only [sS,↓sT,if_true,if_false,Nat.reduceLT,Nat.reduceEqDiff,↓sO,↓WOps_g,sG,opV,loudV,cellsOf,strOp,evL,Nat.reduceAdd,beq_self_eq_true,bne_self_eq_false,Int.reduceBEq,Int.reduceBNe,fa47_2,fr47_2,fv47_2,ti9,fa47_1,fr47_1,fv47_1,len_strN,bs_mk,gt_iff_lt,ref_cells,ref_isC,ref_full,load_str,load_int,int_load,ti47,hg3_1,decide_true,decide_false]
      refine stepB_T (fun hg3_6 => ?_) (fun hg3_6 => ?_)
      · simp only [sS,↓sT,if_true,if_false,Nat.reduceLT,Nat.reduceEqDiff,↓sO,↓WOps_g,sG,opV,loudV,cellsOf,strOp,evL,Nat.reduceAdd,beq_self_eq_true,bne_self_eq_false,Int.reduceBEq,Int.reduceBNe,fa47_2,fr47_2,fv47_2,ti9,fa47_1,fr47_1,fv47_1,len_strN,bs_mk,gt_iff_lt,ref_cells,ref_isC,ref_full,load_str,load_int,int_load,ti47,hg3_1,hg3_6,decide_true,decide_false]
        refine stepB_F (fun hg3_10 => ?_) (fun hg3_10 => ?_)
        · simp only [sS,↓sT,if_true,if_false,Nat.reduceLT,Nat.reduceEqDiff,↓sO,↓WOps_g,sG,opV,loudV,cellsOf,strOp,evL,Nat.reduceAdd,beq_self_eq_true,bne_self_eq_false,Int.reduceBEq,Int.reduceBNe,fa47_2,fr47_2,fv47_2,ti9,fa47_1,fr47_1,fv47_1,len_strN,bs_mk,gt_iff_lt,ref_cells,ref_isC,ref_full,load_str,load_int,int_load,ti47,hg3_1,hg3_6,hg3_10,decide_true,decide_false]
          refine WOps_callP (c_name _) (by simp only [ev_func]) (by simp only [evL,sS,↓sT,if_true,if_false,Nat.reduceLT,Nat.reduceEqDiff]; rfl) (by first | rfl | (simp only [List.map,bare_int]; done) | (simp only [List.map,bare_int]; exact rfl)) (by first | rfl | simp [noP_int]) (by first | rfl | simp [noP_int]) rfl ?_
          simp only [sS,↓sT,if_true,if_false,Nat.reduceLT,Nat.reduceEqDiff,↓sO,↓WOps_g,sG,opV,loudV,cellsOf,strOp,evL,Nat.reduceAdd,beq_self_eq_true,bne_self_eq_false,Int.reduceBEq,Int.reduceBNe,fa47_2,fr47_2,fv47_2,ti9,fa47_1,fr47_1,fv47_1,len_strN,bs_mk,gt_iff_lt,ref_cells,ref_isC,ref_full,load_str,load_int,int_load,ti47,hg3_1,hg3_6,hg3_10,decide_true,decide_false]
          refine hN3 _ ?_; try clear hN3 hD3 N3
          refine WC_ret ?_; (try simp only [Exit.after,Exit.out]); refine Kend_ret (by simp only [resOf,resL,resV,mkS_get,slots_get,cellsOf,ti3,sS,↓sT,if_true,if_false,Nat.reduceLT,Nat.reduceEqDiff]; rfl) (by first | rfl | (simp only [ti3]; done) | (simp only [ti3,okV,ok1,okC,okP,List.all_cons,List.all_nil,Bool.and_true]; done)) ?_
          (simp_all [placeB,keep_bool] <;> omega)
        · simp only [sS,↓sT,if_true,if_false,Nat.reduceLT,Nat.reduceEqDiff,↓sO,↓WOps_g,sG,opV,loudV,cellsOf,strOp,evL,Nat.reduceAdd,beq_self_eq_true,bne_self_eq_false,Int.reduceBEq,Int.reduceBNe,fa47_2,fr47_2,fv47_2,ti9,fa47_1,fr47_1,fv47_1,len_strN,bs_mk,gt_iff_lt,ref_cells,ref_isC,ref_full,load_str,load_int,int_load,ti47,hg3_1,hg3_6,hg3_10,decide_true,decide_false]
          refine hN3 _ ?_; try clear hN3 hD3 N3
          refine WC_ret ?_; (try simp only [Exit.after,Exit.out]); refine Kend_ret (by simp only [resOf,resL,resV,mkS_get,slots_get,cellsOf,ti3,sS,↓sT,if_true,if_false,Nat.reduceLT,Nat.reduceEqDiff]; rfl) (by first | rfl | (simp only [ti3]; done) | (simp only [ti3,okV,ok1,okC,okP,List.all_cons,List.all_nil,Bool.and_true]; done)) ?_
          (simp_all [placeB,keep_bool] <;> omega)
      · simp only [sS,↓sT,if_true,if_false,Nat.reduceLT,Nat.reduceEqDiff,↓sO,↓WOps_g,sG,opV,loudV,cellsOf,strOp,evL,Nat.reduceAdd,beq_self_eq_true,bne_self_eq_false,Int.reduceBEq,Int.reduceBNe,fa47_2,fr47_2,fv47_2,ti9,fa47_1,fr47_1,fv47_1,len_strN,bs_mk,gt_iff_lt,ref_cells,ref_isC,ref_full,load_str,load_int,int_load,ti47,hg3_1,hg3_6,decide_true,decide_false]
        refine hN3 _ ?_; try clear hN3 hD3 N3
        refine WC_ret ?_; (try simp only [Exit.after,Exit.out]); refine Kend_ret (by simp only [resOf,resL,resV,mkS_get,slots_get,cellsOf,ti3,sS,↓sT,if_true,if_false,Nat.reduceLT,Nat.reduceEqDiff]; rfl) (by first | rfl | (simp only [ti3]; done) | (simp only [ti3,okV,ok1,okC,okP,List.all_cons,List.all_nil,Bool.and_true]; done)) ?_
        (simp_all [placeB,keep_bool] <;> omega)
    · simp only [sS,↓sT,if_true,if_false,Nat.reduceLT,Nat.reduceEqDiff,↓sO,↓WOps_g,sG,opV,loudV,cellsOf,strOp,evL,Nat.reduceAdd,beq_self_eq_true,bne_self_eq_false,Int.reduceBEq,Int.reduceBNe,fa47_2,fr47_2,fv47_2,ti9,fa47_1,fr47_1,fv47_1,len_strN,bs_mk,gt_iff_lt,ref_cells,ref_isC,ref_full,load_str,load_int,int_load,ti47,hg3_1,decide_true,decide_false]
      refine hN3 _ ?_; try clear hN3 hD3 N3
      refine WC_ret ?_; (try simp only [Exit.after,Exit.out]); refine Kend_ret (by simp only [resOf,resL,resV,mkS_get,slots_get,cellsOf,ti3,sS,↓sT,if_true,if_false,Nat.reduceLT,Nat.reduceEqDiff]; rfl) (by first | rfl | (simp only [ti3]; done) | (simp only [ti3,okV,ok1,okC,okP,List.all_cons,List.all_nil,Bool.and_true]; done)) ?_
      (simp_all [placeB,keep_bool] <;> omega)
  · simp only [sS,↓sT,if_true,if_false,Nat.reduceLT,Nat.reduceEqDiff,↓sO,↓WOps_g,sG,opV,loudV,cellsOf,strOp,evL,Nat.reduceAdd,beq_self_eq_true,bne_self_eq_false,Int.reduceBEq,Int.reduceBNe,fa47_0,fr47_0,fv47_0,ti3,len_strN,bs_mk,gt_iff_lt,ref_cells,ref_isC,ref_full,load_str,load_int,int_load,ti47,hg2_3,decide_true,decide_false]
    refine hN2 _ ?_; try clear hN2 hD2 N2
    refine WC_seqR (fun N4 hN4 hD4 => ?_)
    simp only [sS,↓sT,if_true,if_false,Nat.reduceLT,Nat.reduceEqDiff,↓sO,↓WOps_g,sG,opV,loudV,cellsOf,strOp,evL,Nat.reduceAdd,beq_self_eq_true,bne_self_eq_false,Int.reduceBEq,Int.reduceBNe,fa47_2,fr47_2,fv47_2,ti9,fa47_1,fr47_1,fv47_1,len_strN,bs_mk,gt_iff_lt,ref_cells,ref_isC,ref_full,load_str,load_int,int_load,ti47,decide_true,decide_false]
    refine WOps_callP (c_name _) (by simp only [ev_func]) (by simp only [evL,sS,↓sT,if_true,if_false,Nat.reduceLT,Nat.reduceEqDiff]; rfl) (by first | rfl | (simp only [List.map,bare_int]; done) | (simp only [List.map,bare_int]; exact rfl)) (by first | rfl | simp [noP_int]) (by first | rfl | simp [noP_int]) rfl ?_
    simp only [sS,↓sT,if_true,if_false,Nat.reduceLT,Nat.reduceEqDiff,↓sO,↓WOps_g,sG,opV,loudV,cellsOf,strOp,evL,Nat.reduceAdd,beq_self_eq_true,bne_self_eq_false,Int.reduceBEq,Int.reduceBNe,fa47_2,fr47_2,fv47_2,ti9,fa47_1,fr47_1,fv47_1,len_strN,bs_mk,gt_iff_lt,ref_cells,ref_isC,ref_full,load_str,load_int,int_load,ti47,decide_true,decide_false]
    refine stepB_T (fun hg4_6 => ?_) (fun hg4_6 => ?_)
    · simp only [sS,↓sT,if_true,if_false,Nat.reduceLT,Nat.reduceEqDiff,↓sO,↓WOps_g,sG,opV,loudV,cellsOf,strOp,evL,Nat.reduceAdd,beq_self_eq_true,bne_self_eq_false,Int.reduceBEq,Int.reduceBNe,fa47_2,fr47_2,fv47_2,ti9,fa47_1,fr47_1,fv47_1,len_strN,bs_mk,gt_iff_lt,ref_cells,ref_isC,ref_full,load_str,load_int,int_load,ti47,hg4_6,decide_true,decide_false]
      refine stepB_F (fun hg4_10 => ?_) (fun hg4_10 => ?_)
      · simp only [sS,↓sT,if_true,if_false,Nat.reduceLT,Nat.reduceEqDiff,↓sO,↓WOps_g,sG,opV,loudV,cellsOf,strOp,evL,Nat.reduceAdd,beq_self_eq_true,bne_self_eq_false,Int.reduceBEq,Int.reduceBNe,fa47_2,fr47_2,fv47_2,ti9,fa47_1,fr47_1,fv47_1,len_strN,bs_mk,gt_iff_lt,ref_cells,ref_isC,ref_full,load_str,load_int,int_load,ti47,hg4_6,hg4_10,decide_true,decide_false]
        refine WOps_callP (c_name _) (by simp only [ev_func]) (by simp only [evL,sS,↓sT,if_true,if_false,Nat.reduceLT,Nat.reduceEqDiff]; rfl) (by first | rfl | (simp only [List.map,bare_int]; done) | (simp only [List.map,bare_int]; exact rfl)) (by first | rfl | simp [noP_int]) (by first | rfl | simp [noP_int]) rfl ?_
        simp only [sS,↓sT,if_true,if_false,Nat.reduceLT,Nat.reduceEqDiff,↓sO,↓WOps_g,sG,opV,loudV,cellsOf,strOp,evL,Nat.reduceAdd,beq_self_eq_true,bne_self_eq_false,Int.reduceBEq,Int.reduceBNe,fa47_2,fr47_2,fv47_2,ti9,fa47_1,fr47_1,fv47_1,len_strN,bs_mk,gt_iff_lt,ref_cells,ref_isC,ref_full,load_str,load_int,int_load,ti47,hg4_6,hg4_10,decide_true,decide_false]
        refine hN4 _ ?_; try clear hN4 hD4 N4
        refine WC_ret ?_; (try simp only [Exit.after,Exit.out]); refine Kend_ret (by simp only [resOf,resL,resV,mkS_get,slots_get,cellsOf,ti3,sS,↓sT,if_true,if_false,Nat.reduceLT,Nat.reduceEqDiff]; rfl) (by first | rfl | (simp only [ti3]; done) | (simp only [ti3,okV,ok1,okC,okP,List.all_cons,List.all_nil,Bool.and_true]; done)) ?_
        (simp_all [placeB,keep_bool] <;> omega)
      · simp only [sS,↓sT,if_true,if_false,Nat.reduceLT,Nat.reduceEqDiff,↓sO,↓WOps_g,sG,opV,loudV,cellsOf,strOp,evL,Nat.reduceAdd,beq_self_eq_true,bne_self_eq_false,Int.reduceBEq,Int.reduceBNe,fa47_2,fr47_2,fv47_2,ti9,fa47_1,fr47_1,fv47_1,len_strN,bs_mk,gt_iff_lt,ref_cells,ref_isC,ref_full,load_str,load_int,int_load,ti47,hg4_6,hg4_10,decide_true,decide_false]
        refine hN4 _ ?_; try clear hN4 hD4 N4
        refine WC_ret ?_; (try simp only [Exit.after,Exit.out]); refine Kend_ret (by simp only [resOf,resL,resV,mkS_get,slots_get,cellsOf,ti3,sS,↓sT,if_true,if_false,Nat.reduceLT,Nat.reduceEqDiff]; rfl) (by first | rfl | (simp only [ti3]; done) | (simp only [ti3,okV,ok1,okC,okP,List.all_cons,List.all_nil,Bool.and_true]; done)) ?_
        (simp_all [placeB,keep_bool] <;> omega)
    · simp only [sS,↓sT,if_true,if_false,Nat.reduceLT,Nat.reduceEqDiff,↓sO,↓WOps_g,sG,opV,loudV,cellsOf,strOp,evL,Nat.reduceAdd,beq_self_eq_true,bne_self_eq_false,Int.reduceBEq,Int.reduceBNe,fa47_2,fr47_2,fv47_2,ti9,fa47_1,fr47_1,fv47_1,len_strN,bs_mk,gt_iff_lt,ref_cells,ref_isC,ref_full,load_str,load_int,int_load,ti47,hg4_6,decide_true,decide_false]
      refine hN4 _ ?_; try clear hN4 hD4 N4
      refine WC_ret ?_; (try simp only [Exit.after,Exit.out]); refine Kend_ret (by simp only [resOf,resL,resV,mkS_get,slots_get,cellsOf,ti3,sS,↓sT,if_true,if_false,Nat.reduceLT,Nat.reduceEqDiff]; rfl) (by first | rfl | (simp only [ti3]; done) | (simp only [ti3,okV,ok1,okC,okP,List.all_cons,List.all_nil,Bool.and_true]; done)) ?_
      (simp_all [placeB,keep_bool] <;> omega)
theorem c_punnet_punnetref13_Place (s : Int) (g n0 : List UInt8) : VC Try.prog 69 [refW s g n0] [] (fun r _ => r = .bool (placeB s g n0)) := by
  refine VC_enter (nt := 27) (rs := [.tmp 2]) (ow := []) (m := 0) Try.func69 rfl (by rfl) rfl rfl (by simp) rfl rfl (fun n => ?_)
  simp only [zipT,Nat.zero_add]
  refine WC_seqR (fun N1 hN1 hD1 => ?_)
  simp only [sS,↓sT,if_true,if_false,Nat.reduceLT,Nat.reduceEqDiff,↓sO,↓WOps_g,sG,opV,loudV,cellsOf,strOp,evL,Nat.reduceAdd,beq_self_eq_true,bne_self_eq_false,Int.reduceBEq,Int.reduceBNe,len_strN,bs_mk,gt_iff_lt,ref_cells,ref_isC,ref_full,load_str,load_int,int_load,ti47,decide_true,decide_false]
  refine hN1 _ ?_; try clear hN1 hD1 N1
  refine WC_seqR (fun N2 hN2 hD2 => ?_)
  simp only [sS,↓sT,if_true,if_false,Nat.reduceLT,Nat.reduceEqDiff,↓sO,↓WOps_g,sG,opV,loudV,cellsOf,strOp,evL,Nat.reduceAdd,beq_self_eq_true,bne_self_eq_false,Int.reduceBEq,Int.reduceBNe,fa47_0,fr47_0,fv47_0,ti3,fa47_2,fr47_2,fv47_2,ti9,fa47_1,fr47_1,fv47_1,len_strN,bs_mk,gt_iff_lt,ref_cells,ref_isC,ref_full,load_str,load_int,int_load,ti47,decide_true,decide_false]
  refine stepB_T (fun hg2_3 => ?_) (fun hg2_3 => ?_)
  · simp only [sS,↓sT,if_true,if_false,Nat.reduceLT,Nat.reduceEqDiff,↓sO,↓WOps_g,sG,opV,loudV,cellsOf,strOp,evL,Nat.reduceAdd,beq_self_eq_true,bne_self_eq_false,Int.reduceBEq,Int.reduceBNe,fa47_0,fr47_0,fv47_0,ti3,fa47_2,fr47_2,fv47_2,ti9,fa47_1,fr47_1,fv47_1,len_strN,bs_mk,gt_iff_lt,ref_cells,ref_isC,ref_full,load_str,load_int,int_load,ti47,hg2_3,decide_true,decide_false]
    refine stepB_T (fun hg2_8 => ?_) (fun hg2_8 => ?_)
    · simp only [sS,↓sT,if_true,if_false,Nat.reduceLT,Nat.reduceEqDiff,↓sO,↓WOps_g,sG,opV,loudV,cellsOf,strOp,evL,Nat.reduceAdd,beq_self_eq_true,bne_self_eq_false,Int.reduceBEq,Int.reduceBNe,fa47_0,fr47_0,fv47_0,ti3,fa47_2,fr47_2,fv47_2,ti9,fa47_1,fr47_1,fv47_1,len_strN,bs_mk,gt_iff_lt,ref_cells,ref_isC,ref_full,load_str,load_int,int_load,ti47,hg2_3,hg2_8,decide_true,decide_false]
      refine WOps_callP (c_refname _) (by simp only [ev_func]) (by simp only [evL,sS,↓sT,if_true,if_false,Nat.reduceLT,Nat.reduceEqDiff]; rfl) (by first | rfl | (simp only [List.map,bare_int]; done) | (simp only [List.map,bare_int]; exact rfl)) (by first | rfl | simp [noP_int]) (by first | rfl | simp [noP_int]) rfl ?_
      simp only [sS,↓sT,if_true,if_false,Nat.reduceLT,Nat.reduceEqDiff,↓sO,↓WOps_g,sG,opV,loudV,cellsOf,strOp,evL,Nat.reduceAdd,beq_self_eq_true,bne_self_eq_false,Int.reduceBEq,Int.reduceBNe,fa47_0,fr47_0,fv47_0,ti3,fa47_2,fr47_2,fv47_2,ti9,fa47_1,fr47_1,fv47_1,len_strN,bs_mk,gt_iff_lt,ref_cells,ref_isC,ref_full,load_str,load_int,int_load,ti47,hg2_3,hg2_8,decide_true,decide_false]
      refine stepB_T (fun hg2_13 => ?_) (fun hg2_13 => ?_)
      · simp only [sS,↓sT,if_true,if_false,Nat.reduceLT,Nat.reduceEqDiff,↓sO,↓WOps_g,sG,opV,loudV,cellsOf,strOp,evL,Nat.reduceAdd,beq_self_eq_true,bne_self_eq_false,Int.reduceBEq,Int.reduceBNe,fa47_0,fr47_0,fv47_0,ti3,fa47_2,fr47_2,fv47_2,ti9,fa47_1,fr47_1,fv47_1,len_strN,bs_mk,gt_iff_lt,ref_cells,ref_isC,ref_full,load_str,load_int,int_load,ti47,hg2_3,hg2_8,hg2_13,decide_true,decide_false]
        refine stepB_F (fun hg2_18 => ?_) (fun hg2_18 => ?_)
        · simp only [sS,↓sT,if_true,if_false,Nat.reduceLT,Nat.reduceEqDiff,↓sO,↓WOps_g,sG,opV,loudV,cellsOf,strOp,evL,Nat.reduceAdd,beq_self_eq_true,bne_self_eq_false,Int.reduceBEq,Int.reduceBNe,fa47_0,fr47_0,fv47_0,ti3,fa47_2,fr47_2,fv47_2,ti9,fa47_1,fr47_1,fv47_1,len_strN,bs_mk,gt_iff_lt,ref_cells,ref_isC,ref_full,load_str,load_int,int_load,ti47,hg2_3,hg2_8,hg2_13,hg2_18,decide_true,decide_false]
          refine WOps_callP (c_refname _) (by simp only [ev_func]) (by simp only [evL,sS,↓sT,if_true,if_false,Nat.reduceLT,Nat.reduceEqDiff]; rfl) (by first | rfl | (simp only [List.map,bare_int]; done) | (simp only [List.map,bare_int]; exact rfl)) (by first | rfl | simp [noP_int]) (by first | rfl | simp [noP_int]) rfl ?_
          simp only [sS,↓sT,if_true,if_false,Nat.reduceLT,Nat.reduceEqDiff,↓sO,↓WOps_g,sG,opV,loudV,cellsOf,strOp,evL,Nat.reduceAdd,beq_self_eq_true,bne_self_eq_false,Int.reduceBEq,Int.reduceBNe,fa47_0,fr47_0,fv47_0,ti3,fa47_2,fr47_2,fv47_2,ti9,fa47_1,fr47_1,fv47_1,len_strN,bs_mk,gt_iff_lt,ref_cells,ref_isC,ref_full,load_str,load_int,int_load,ti47,hg2_3,hg2_8,hg2_13,hg2_18,decide_true,decide_false]
          refine hN2 _ ?_; try clear hN2 hD2 N2
          refine WC_ret ?_; (try simp only [Exit.after,Exit.out]); refine Kend_ret (by simp only [resOf,resL,resV,mkS_get,slots_get,cellsOf,ti3,sS,↓sT,if_true,if_false,Nat.reduceLT,Nat.reduceEqDiff]; rfl) (by first | rfl | (simp only [ti3]; done) | (simp only [ti3,okV,ok1,okC,okP,List.all_cons,List.all_nil,Bool.and_true]; done)) ?_
          rw [keep_bool,placeB,place_scope]
          first | (simp_all; done) | (simp_all; omega)
        · simp only [sS,↓sT,if_true,if_false,Nat.reduceLT,Nat.reduceEqDiff,↓sO,↓WOps_g,sG,opV,loudV,cellsOf,strOp,evL,Nat.reduceAdd,beq_self_eq_true,bne_self_eq_false,Int.reduceBEq,Int.reduceBNe,fa47_0,fr47_0,fv47_0,ti3,fa47_2,fr47_2,fv47_2,ti9,fa47_1,fr47_1,fv47_1,len_strN,bs_mk,gt_iff_lt,ref_cells,ref_isC,ref_full,load_str,load_int,int_load,ti47,hg2_3,hg2_8,hg2_13,hg2_18,decide_true,decide_false]
          refine hN2 _ ?_; try clear hN2 hD2 N2
          refine WC_ret ?_; (try simp only [Exit.after,Exit.out]); refine Kend_ret (by simp only [resOf,resL,resV,mkS_get,slots_get,cellsOf,ti3,sS,↓sT,if_true,if_false,Nat.reduceLT,Nat.reduceEqDiff]; rfl) (by first | rfl | (simp only [ti3]; done) | (simp only [ti3,okV,ok1,okC,okP,List.all_cons,List.all_nil,Bool.and_true]; done)) ?_
          rw [keep_bool,placeB,place_scope]
          first | (simp_all; done) | (simp_all; omega)
      · simp only [sS,↓sT,if_true,if_false,Nat.reduceLT,Nat.reduceEqDiff,↓sO,↓WOps_g,sG,opV,loudV,cellsOf,strOp,evL,Nat.reduceAdd,beq_self_eq_true,bne_self_eq_false,Int.reduceBEq,Int.reduceBNe,fa47_0,fr47_0,fv47_0,ti3,fa47_2,fr47_2,fv47_2,ti9,fa47_1,fr47_1,fv47_1,len_strN,bs_mk,gt_iff_lt,ref_cells,ref_isC,ref_full,load_str,load_int,int_load,ti47,hg2_3,hg2_8,hg2_13,decide_true,decide_false]
        refine hN2 _ ?_; try clear hN2 hD2 N2
        refine WC_ret ?_; (try simp only [Exit.after,Exit.out]); refine Kend_ret (by simp only [resOf,resL,resV,mkS_get,slots_get,cellsOf,ti3,sS,↓sT,if_true,if_false,Nat.reduceLT,Nat.reduceEqDiff]; rfl) (by first | rfl | (simp only [ti3]; done) | (simp only [ti3,okV,ok1,okC,okP,List.all_cons,List.all_nil,Bool.and_true]; done)) ?_
        rw [keep_bool,placeB,place_scope]
        first | (simp_all; done) | (simp_all; omega)
    · simp only [sS,↓sT,if_true,if_false,Nat.reduceLT,Nat.reduceEqDiff,↓sO,↓WOps_g,sG,opV,loudV,cellsOf,strOp,evL,Nat.reduceAdd,beq_self_eq_true,bne_self_eq_false,Int.reduceBEq,Int.reduceBNe,fa47_0,fr47_0,fv47_0,ti3,fa47_2,fr47_2,fv47_2,ti9,fa47_1,fr47_1,fv47_1,len_strN,bs_mk,gt_iff_lt,ref_cells,ref_isC,ref_full,load_str,load_int,int_load,ti47,hg2_3,hg2_8,decide_true,decide_false]
      refine hN2 _ ?_; try clear hN2 hD2 N2
      refine WC_ret ?_; (try simp only [Exit.after,Exit.out]); refine Kend_ret (by simp only [resOf,resL,resV,mkS_get,slots_get,cellsOf,ti3,sS,↓sT,if_true,if_false,Nat.reduceLT,Nat.reduceEqDiff]; rfl) (by first | rfl | (simp only [ti3]; done) | (simp only [ti3,okV,ok1,okC,okP,List.all_cons,List.all_nil,Bool.and_true]; done)) ?_
      rw [keep_bool,placeB,place_scope]
      first | (simp_all; done) | (simp_all; omega)
  · simp only [sS,↓sT,if_true,if_false,Nat.reduceLT,Nat.reduceEqDiff,↓sO,↓WOps_g,sG,opV,loudV,cellsOf,strOp,evL,Nat.reduceAdd,beq_self_eq_true,bne_self_eq_false,Int.reduceBEq,Int.reduceBNe,fa47_0,fr47_0,fv47_0,ti3,fa47_2,fr47_2,fv47_2,ti9,fa47_1,fr47_1,fv47_1,len_strN,bs_mk,gt_iff_lt,ref_cells,ref_isC,ref_full,load_str,load_int,int_load,ti47,hg2_3,decide_true,decide_false]
    refine hN2 _ ?_; try clear hN2 hD2 N2
    refine WC_ret ?_; (try simp only [Exit.after,Exit.out]); refine Kend_ret (by simp only [resOf,resL,resV,mkS_get,slots_get,cellsOf,ti3,sS,↓sT,if_true,if_false,Nat.reduceLT,Nat.reduceEqDiff]; rfl) (by first | rfl | (simp only [ti3]; done) | (simp only [ti3,okV,ok1,okC,okP,List.all_cons,List.all_nil,Bool.and_true]; done)) ?_
    rw [keep_bool,placeB,place_scope]
    first | (simp_all; done) | (simp_all; omega)
end Go.PV
/- Drops of ops. -/
namespace Go.PV
open Go.Proofs
set_option linter.unusedVariables false
set_option linter.unusedSimpArgs false
set_option maxRecDepth 10000
set_option maxHeartbeats 1000000

/-- one drop, behind the one before it -/
def dropB (id : Int × Int) (p : Option (Int × Int)) (q : Int × Int) : Bool :=
  tagB q.1 q.2 && (!(q.1 == id.1 && q.2 == id.2) && (match p with | none => true | some p => lessB p.1 p.2 q.1 q.2))
def chainB (id : Int × Int) : Option (Int × Int) → List (Int × Int) → Bool
  | _, [] => true
  | p,q :: l => dropB id p q && chainB id (some q) l
def prevAt (l : List (Int × Int)) (t : Nat) : Option (Int × Int) := if t = 0 then none else l[t - 1]?
theorem chain_step {id : Int × Int} {l : List (Int × Int)} {t : Nat} {q : Int × Int} (h : l[t]? = some q) : chainB id (prevAt l t) (l.drop t) = (dropB id (prevAt l t) q && chainB id (prevAt l (t + 1)) (l.drop (t + 1))) := by
  obtain ⟨h1,h2⟩ := List.getElem?_eq_some_iff.1 h
  rw [List.drop_eq_getElem_cons h1,h2,chainB]
  congr 2
  simp [prevAt,h]
def dropsB (o : OpS) : Bool := decide ((o.dropsL.length : Int) ≤ 60) && chainB (o.idR, o.idN) none o.dropsL
theorem c_punnet_op_drops (o : OpS) : VC Try.prog 57 [opW o] [] (fun r _ => r = .bool (dropsB o)) := by
  refine VC_enter (nt := 42) (rs := [.tmp 2]) (ow := []) (m := 0) Try.func57 rfl (by rfl) rfl rfl (by simp) (by simp [ownOf,op_toks]) rfl (fun n => ?_)
  simp only [zipT,Nat.zero_add]
  have hx := dropsW_TS o.drops
  obtain ⟨l,hl⟩ : ∃ l,o.drops.l = l := ⟨_,rfl⟩
  obtain ⟨x,hxd⟩ : ∃ x,dropsW o.drops = x := ⟨_,rfl⟩
  have hspec : dropsB o = (decide ((l.length : Int) ≤ 60) && chainB (o.idR,o.idN) none l) := by rw [dropsB,OpS.dropsL,hl]
  have hxc : x.isCell = true := hxd ▸ dropsW_isC o.drops
  rw [hl,hxd] at hx
  refine WC_seqR (fun N1 hN1 hD1 => ?_)
  simp only [sS,↓sT,if_true,if_false,Nat.reduceLT,Nat.reduceEqDiff,↓sO,↓WOps_g,sG,opV,loudV,cellsOf,strOp,evL,Nat.reduceAdd,beq_self_eq_true,bne_self_eq_false,Int.reduceBEq,Int.reduceBNe,op_cells,List.all_cons,List.all_nil,icell_int,icell_str,icell_bool,hxc,Bool.and_self,opCells,hxd,hx.len,load_slice,load_int,tag_load2,tag_load,gt_iff_lt,ti25,ti49,tag_cells,tag_isC,tag_eql,tag_full,cat_at,cat_set,lth0,lth1,lth2,List.length_append,Nat.lt_add_one,decide_true,decide_false]
  refine hN1 _ ?_; try clear hN1 hD1 N1
  refine WC_seqN (fun N2 hN2 hD2 => ?_)
  refine WC_seqR (fun N3 hN3 hD3 => ?_)
  simp only [sS,↓sT,if_true,if_false,Nat.reduceLT,Nat.reduceEqDiff,↓sO,↓WOps_g,sG,opV,loudV,cellsOf,strOp,evL,Nat.reduceAdd,beq_self_eq_true,bne_self_eq_false,Int.reduceBEq,Int.reduceBNe,fa49_10,fr49_10,fv49_10,ti38,op_cells,List.all_cons,List.all_nil,icell_int,icell_str,icell_bool,hxc,Bool.and_self,opCells,hxd,hx.len,load_slice,load_int,tag_load2,tag_load,gt_iff_lt,ti25,ti49,tag_cells,tag_isC,tag_eql,tag_full,cat_at,cat_set,lth0,lth1,lth2,List.length_append,Nat.lt_add_one,decide_true,decide_false]
  refine hN3 _ ?_; try clear hN3 hD3 N3
  refine WC_condE ?_
  simp only [sS,↓sT,if_true,if_false,Nat.reduceLT,Nat.reduceEqDiff,↓stepC_bool]
  refine ⟨fun hb4 => ?_,fun hb4 => ?_⟩
  · refine WC_seqR (fun N5 hN5 hD5 => ?_)
    simp only [sS,↓sT,if_true,if_false,Nat.reduceLT,Nat.reduceEqDiff,↓sO,↓WOps_g,sG,opV,loudV,cellsOf,strOp,evL,Nat.reduceAdd,beq_self_eq_true,bne_self_eq_false,Int.reduceBEq,Int.reduceBNe,op_cells,List.all_cons,List.all_nil,icell_int,icell_str,icell_bool,hxc,Bool.and_self,opCells,hxd,hx.len,load_slice,load_int,tag_load2,tag_load,gt_iff_lt,ti25,ti49,tag_cells,tag_isC,tag_eql,tag_full,cat_at,cat_set,lth0,lth1,lth2,List.length_append,Nat.lt_add_one,decide_true,decide_false]
    refine hN5 _ ?_; try clear hN5 hD5 N5
    refine WC_ret ?_; (try simp only [Exit.after,Exit.out]); refine Kend_ret (by simp only [resOf,resL,resV,mkS_get,slots_get,cellsOf,ti3,sS,↓sT,if_true,if_false,Nat.reduceLT,Nat.reduceEqDiff]; rfl) (by first | rfl | (simp only [ti3]; done) | (simp only [ti3,okV,ok1,okC,okP,List.all_cons,List.all_nil,Bool.and_true]; done)) ?_
    clear hN2 hD2 N2
    rw [keep_bool,hspec]
    first | (have hc := of_decide_eq_true hb4; rw [decide_eq_false (by omega)]; rfl) | skip
    first | (rw [ht,List.drop_length] at hch; rw [hlen,hch]; rfl) | skip
    all_goals (rw [hlen,hch,hst]; simp_all [dropB])
  · refine WC_skip ?_
    refine hN2 _ ?_; try clear hN2 hD2 N2
    refine WC_seqN (fun N6 hN6 hD6 => ?_)
    refine WC_seqR (fun N7 hN7 hD7 => ?_)
    simp only [sS,↓sT,if_true,if_false,Nat.reduceLT,Nat.reduceEqDiff,↓sO,↓WOps_g,sG,opV,loudV,cellsOf,strOp,evL,Nat.reduceAdd,beq_self_eq_true,bne_self_eq_false,Int.reduceBEq,Int.reduceBNe,fa49_10,fr49_10,fv49_10,ti38,op_cells,List.all_cons,List.all_nil,icell_int,icell_str,icell_bool,hxc,Bool.and_self,opCells,hxd,hx.len,load_slice,load_int,tag_load2,tag_load,gt_iff_lt,ti25,ti49,tag_cells,tag_isC,tag_eql,tag_full,cat_at,cat_set,lth0,lth1,lth2,List.length_append,Nat.lt_add_one,decide_true,decide_false]
    refine hN7 _ ?_; try clear hN7 hD7 N7
    refine WC_block ?_
    have hlen : decide ((l.length : Int) ≤ 60) = true := decide_eq_true (by have := of_decide_eq_false hb4; omega)
    have hl60 : l.length ≤ 60 := by have := of_decide_eq_true hlen; omega
    refine WC_loopG (σ := Nat) (fun t s => ∃ ps hs,s = ⟨mkS 42 ps,opCells o :: hs, [],n⟩ ∧ Has ps [(1, .ptr 0 0),(10,x),(11, .int .i64 l.length),(12, .int .i64 t)] ∧ t ≤ l.length ∧ chainB (o.idR,o.idN) none l = chainB (o.idR,o.idN) (prevAt l t) (l.drop t)) (fun t => l.length - t) 0 ?_ (fun t s hI => ?_)
    · exact ⟨_,_,by rw [opCells,hxd],⟨rfl,rfl,rfl,rfl,trivial⟩,by omega,rfl⟩
    obtain ⟨ps,hs,rfl,hps,htl,hch⟩ := hI
    refine WC_has hps ?_; clear hps ps
    refine WC_seqR (fun N8 hN8 hD8 => ?_)
    simp only [sS,↓sT,if_true,if_false,Nat.reduceLT,Nat.reduceEqDiff,↓sO,↓WOps_g,sG,opV,loudV,cellsOf,strOp,evL,Nat.reduceAdd,beq_self_eq_true,bne_self_eq_false,Int.reduceBEq,Int.reduceBNe,op_cells,List.all_cons,List.all_nil,icell_int,icell_str,icell_bool,hxc,Bool.and_self,opCells,hxd,hx.len,load_slice,load_int,tag_load2,tag_load,gt_iff_lt,ti25,ti49,tag_cells,tag_isC,tag_eql,tag_full,cat_at,cat_set,lth0,lth1,lth2,List.length_append,Nat.lt_add_one,decide_true,decide_false]
    refine hN8 _ ?_; try clear hN8 hD8 N8
    refine WC_seqN (fun N9 hN9 hD9 => ?_)
    refine WC_condE ?_
    simp only [sS,↓sT,if_true,if_false,Nat.reduceLT,Nat.reduceEqDiff,↓stepC_bool]
    refine ⟨fun hb10 => ?_,fun hb10 => ?_⟩
    · have ht : t < l.length := by have := of_decide_eq_true hb10; omega
      clear hb10
      obtain ⟨q,hq⟩ : ∃ q,l[t]? = some q := ⟨_,List.getElem?_eq_getElem ht⟩
      obtain ⟨p,hp⟩ : ∃ p,0 < t → l[t - 1]? = some p := ⟨l.getD (t - 1) q,fun h => by simp [List.getD,List.getElem?_eq_getElem (show t - 1 < l.length by omega)]⟩
      have hst := chain_step (id := (o.idR,o.idN)) hq
      have hqi := hx.ia hq
      have hpi : decide (0 < (t : Int)) = true → indexAddrV Try.prog 38 x (.int .i64 ((t : Int) - 1)) = some (.rptr [.int .i64 p.1, .int .i64 p.2]) := fun h => by
        have h := of_decide_eq_true h
        have := hx.ia (hp (by omega))
        rwa [show ((t - 1 : Nat) : Int) = (t : Int) - 1 from by omega] at this
      have hpv : prevAt l t = if decide (0 < (t : Int)) = true then some p else none := by
        unfold prevAt
        by_cases h : t = 0
        · rw [if_pos h,if_neg (by simp; omega)]
        · rw [if_neg h,if_pos (by simp; omega),hp (by omega)]
      rw [hpv] at hst hch
      clear hpv
      refine WC_skip ?_
      refine hN9 _ ?_; try clear hN9 hD9 N9
      refine WC_seqN (fun N11 hN11 hD11 => ?_)
      refine WC_block ?_
      refine WC_seqR (fun N12 hN12 hD12 => ?_)
      simp only [sS,↓sT,if_true,if_false,Nat.reduceLT,Nat.reduceEqDiff,↓sO,↓WOps_g,sG,opV,loudV,cellsOf,strOp,evL,Nat.reduceAdd,beq_self_eq_true,bne_self_eq_false,Int.reduceBEq,Int.reduceBNe,ti38,ti25,op_cells,List.all_cons,List.all_nil,icell_int,icell_str,icell_bool,hxc,Bool.and_self,opCells,hxd,hx.len,load_slice,load_int,tag_load2,tag_load,gt_iff_lt,ti25,ti49,tag_cells,tag_isC,tag_eql,tag_full,cat_at,cat_set,lth0,lth1,lth2,List.length_append,Nat.lt_add_one,hqi,hpi,wrapI (x := (t : Int) + 1) (by omega) (by omega),wrapI (x := (t : Int) - 1) (by omega) (by omega),decide_true,decide_false]
      refine hN12 _ ?_; try clear hN12 hD12 N12
      refine WC_seqD mixed [] [0,0,0,0,0,0,0,0,0,0,0,0,0,0,0,0,0,0,0,0,0,0,0,0] (by decide +kernel) (fun N13 hN13 hD13 => ?_)
      simp only [sS,↓sT,if_true,if_false,Nat.reduceLT,Nat.reduceEqDiff,↓sD,↓D_g,memOk,lets0,lets1,List.not_mem_nil,not_false_eq_true,true_and,and_true,sG,opV,loudV,cellsOf,strOp,evL,Nat.reduceAdd,beq_self_eq_true,bne_self_eq_false,Int.reduceBEq,Int.reduceBNe,ti25,fa49_0,fr49_0,fv49_0,fa49_10,fr49_10,fv49_10,ti38,op_cells,List.all_cons,List.all_nil,icell_int,icell_str,icell_bool,hxc,Bool.and_self,opCells,hxd,hx.len,load_slice,load_int,tag_load2,tag_load,gt_iff_lt,ti25,ti49,tag_cells,tag_isC,tag_eql,tag_full,cat_at,cat_set,lth0,lth1,lth2,List.length_append,Nat.lt_add_one,hqi,hpi,wrapI (x := (t : Int) + 1) (by omega) (by omega),wrapI (x := (t : Int) - 1) (by omega) (by omega),decide_true,decide_false]
      refine D_callP (c_punnet_tree_Tag _ _) (by simp only [ev_func]) (by simp only [evL,sS,↓sT,if_true,if_false,Nat.reduceLT,Nat.reduceEqDiff]; rfl) (by first | rfl | (simp only [List.map,tag_bare]; done) | (simp only [List.map,tag_bare]; exact rfl)) (by first | rfl | simp [tag_noP]) (by first | rfl | simp [tag_noP]) rfl ?_
      simp only [sS,↓sT,if_true,if_false,Nat.reduceLT,Nat.reduceEqDiff,↓sD,↓D_g,memOk,lets0,lets1,List.not_mem_nil,not_false_eq_true,true_and,and_true,sG,opV,loudV,cellsOf,strOp,evL,Nat.reduceAdd,beq_self_eq_true,bne_self_eq_false,Int.reduceBEq,Int.reduceBNe,ti25,fa49_0,fr49_0,fv49_0,fa49_10,fr49_10,fv49_10,ti38,op_cells,List.all_cons,List.all_nil,icell_int,icell_str,icell_bool,hxc,Bool.and_self,opCells,hxd,hx.len,load_slice,load_int,tag_load2,tag_load,gt_iff_lt,ti25,ti49,tag_cells,tag_isC,tag_eql,tag_full,cat_at,cat_set,lth0,lth1,lth2,List.length_append,Nat.lt_add_one,hqi,hpi,wrapI (x := (t : Int) + 1) (by omega) (by omega),wrapI (x := (t : Int) - 1) (by omega) (by omega),decide_true,decide_false]
      refine stepB_F (fun hg13_3 => ?_) (fun hg13_3 => ?_)
      · simp only [sS,↓sT,if_true,if_false,Nat.reduceLT,Nat.reduceEqDiff,↓sD,↓D_g,memOk,lets0,lets1,List.not_mem_nil,not_false_eq_true,true_and,and_true,sG,opV,loudV,cellsOf,strOp,evL,Nat.reduceAdd,beq_self_eq_true,bne_self_eq_false,Int.reduceBEq,Int.reduceBNe,ti25,fa49_0,fr49_0,fv49_0,fa49_10,fr49_10,fv49_10,ti38,op_cells,List.all_cons,List.all_nil,icell_int,icell_str,icell_bool,hxc,Bool.and_self,opCells,hxd,hx.len,load_slice,load_int,tag_load2,tag_load,gt_iff_lt,ti25,ti49,tag_cells,tag_isC,tag_eql,tag_full,cat_at,cat_set,lth0,lth1,lth2,List.length_append,Nat.lt_add_one,hqi,hpi,wrapI (x := (t : Int) + 1) (by omega) (by omega),wrapI (x := (t : Int) - 1) (by omega) (by omega),hg13_3,decide_true,decide_false]
        refine stepB_F (fun hg13_9 => ?_) (fun hg13_9 => ?_)
        · simp only [sS,↓sT,if_true,if_false,Nat.reduceLT,Nat.reduceEqDiff,↓sD,↓D_g,memOk,lets0,lets1,List.not_mem_nil,not_false_eq_true,true_and,and_true,sG,opV,loudV,cellsOf,strOp,evL,Nat.reduceAdd,beq_self_eq_true,bne_self_eq_false,Int.reduceBEq,Int.reduceBNe,ti25,fa49_0,fr49_0,fv49_0,fa49_10,fr49_10,fv49_10,ti38,op_cells,List.all_cons,List.all_nil,icell_int,icell_str,icell_bool,hxc,Bool.and_self,opCells,hxd,hx.len,load_slice,load_int,tag_load2,tag_load,gt_iff_lt,ti25,ti49,tag_cells,tag_isC,tag_eql,tag_full,cat_at,cat_set,lth0,lth1,lth2,List.length_append,Nat.lt_add_one,hqi,hpi,wrapI (x := (t : Int) + 1) (by omega) (by omega),wrapI (x := (t : Int) - 1) (by omega) (by omega),hg13_3,hg13_9,decide_true,decide_false]
          refine stepB_T (fun hg13_12 => ?_) (fun hg13_12 => ?_)
          · simp only [sS,↓sT,if_true,if_false,Nat.reduceLT,Nat.reduceEqDiff,↓sD,↓D_g,memOk,lets0,lets1,List.not_mem_nil,not_false_eq_true,true_and,and_true,sG,opV,loudV,cellsOf,strOp,evL,Nat.reduceAdd,beq_self_eq_true,bne_self_eq_false,Int.reduceBEq,Int.reduceBNe,ti25,fa49_0,fr49_0,fv49_0,fa49_10,fr49_10,fv49_10,ti38,op_cells,List.all_cons,List.all_nil,icell_int,icell_str,icell_bool,hxc,Bool.and_self,opCells,hxd,hx.len,load_slice,load_int,tag_load2,tag_load,gt_iff_lt,ti25,ti49,tag_cells,tag_isC,tag_eql,tag_full,cat_at,cat_set,lth0,lth1,lth2,List.length_append,Nat.lt_add_one,hqi,hpi,wrapI (x := (t : Int) + 1) (by omega) (by omega),wrapI (x := (t : Int) - 1) (by omega) (by omega),hg13_3,hg13_9,hg13_12,decide_true,decide_false]
            refine D_callP (c_punnet_tree_Less _ _ _ _) (by simp only [ev_func]) (by simp only [evL,sS,↓sT,if_true,if_false,Nat.reduceLT,Nat.reduceEqDiff]; rfl) (by first | rfl | (simp only [List.map,tag_bare]; done) | (simp only [List.map,tag_bare]; exact rfl)) (by first | rfl | simp [tag_noP]) (by first | rfl | simp [tag_noP]) rfl ?_
            simp only [sS,↓sT,if_true,if_false,Nat.reduceLT,Nat.reduceEqDiff,↓sD,↓D_g,memOk,lets0,lets1,List.not_mem_nil,not_false_eq_true,true_and,and_true,sG,opV,loudV,cellsOf,strOp,evL,Nat.reduceAdd,beq_self_eq_true,bne_self_eq_false,Int.reduceBEq,Int.reduceBNe,ti25,fa49_0,fr49_0,fv49_0,fa49_10,fr49_10,fv49_10,ti38,op_cells,List.all_cons,List.all_nil,icell_int,icell_str,icell_bool,hxc,Bool.and_self,opCells,hxd,hx.len,load_slice,load_int,tag_load2,tag_load,gt_iff_lt,ti25,ti49,tag_cells,tag_isC,tag_eql,tag_full,cat_at,cat_set,lth0,lth1,lth2,List.length_append,Nat.lt_add_one,hqi,hpi,wrapI (x := (t : Int) + 1) (by omega) (by omega),wrapI (x := (t : Int) - 1) (by omega) (by omega),hg13_3,hg13_9,hg13_12,decide_true,decide_false]
            refine hN13 _ ?_; try clear hN13 hD13 N13
            refine WC_condE ?_
            simp only [sS,↓sT,if_true,if_false,Nat.reduceLT,Nat.reduceEqDiff,↓stepC_bool]
            refine ⟨fun hb14 => ?_,fun hb14 => ?_⟩
            · refine WC_seqR (fun N15 hN15 hD15 => ?_)
              simp only [sS,↓sT,if_true,if_false,Nat.reduceLT,Nat.reduceEqDiff,↓sO,↓WOps_g,sG,opV,loudV,cellsOf,strOp,evL,Nat.reduceAdd,beq_self_eq_true,bne_self_eq_false,Int.reduceBEq,Int.reduceBNe,op_cells,List.all_cons,List.all_nil,icell_int,icell_str,icell_bool,hxc,Bool.and_self,opCells,hxd,hx.len,load_slice,load_int,tag_load2,tag_load,gt_iff_lt,ti25,ti49,tag_cells,tag_isC,tag_eql,tag_full,cat_at,cat_set,lth0,lth1,lth2,List.length_append,Nat.lt_add_one,hqi,hpi,wrapI (x := (t : Int) + 1) (by omega) (by omega),wrapI (x := (t : Int) - 1) (by omega) (by omega),decide_true,decide_false]
              refine hN15 _ ?_; try clear hN15 hD15 N15
              refine WC_ret ?_; (try simp only [Exit.after,Exit.out]); refine Kend_ret (by simp only [resOf,resL,resV,mkS_get,slots_get,cellsOf,ti3,sS,↓sT,if_true,if_false,Nat.reduceLT,Nat.reduceEqDiff]; rfl) (by first | rfl | (simp only [ti3]; done) | (simp only [ti3,okV,ok1,okC,okP,List.all_cons,List.all_nil,Bool.and_true]; done)) ?_
              clear hN11 hD11 N11 hN6 hD6 N6
              rw [keep_bool,hspec]
              first | (have hc := of_decide_eq_true hb4; rw [decide_eq_false (by omega)]; rfl) | skip
              first | (rw [ht,List.drop_length] at hch; rw [hlen,hch]; rfl) | skip
              all_goals (rw [hlen,hch,hst]; simp_all [dropB])
            · refine WC_skip ?_
              refine hN11 _ ?_; try clear hN11 hD11 N11
              refine WC_regN (fun N16 hN16 => ?_)
              simp only [sS,↓sT,if_true,if_false,Nat.reduceLT,Nat.reduceEqDiff,↓sO,↓WOps_g,sG,opV,loudV,cellsOf,strOp,evL,Nat.reduceAdd,beq_self_eq_true,bne_self_eq_false,Int.reduceBEq,Int.reduceBNe,op_cells,List.all_cons,List.all_nil,icell_int,icell_str,icell_bool,hxc,Bool.and_self,opCells,hxd,hx.len,load_slice,load_int,tag_load2,tag_load,gt_iff_lt,ti25,ti49,tag_cells,tag_isC,tag_eql,tag_full,cat_at,cat_set,lth0,lth1,lth2,List.length_append,Nat.lt_add_one,hqi,hpi,wrapI (x := (t : Int) + 1) (by omega) (by omega),wrapI (x := (t : Int) - 1) (by omega) (by omega),decide_true,decide_false]
              refine hN16 _ ?_; try clear hN16 N16
              refine ⟨t + 1,⟨_,_,by rw [opCells,hxd],⟨rfl,rfl,rfl,rfl,trivial⟩,ht, ?_⟩,by omega⟩
              rw [hch,hst]; (simp_all [dropB] <;> (intro _; by_cases hA : q.fst = o.idR <;> simp_all))
          · simp only [sS,↓sT,if_true,if_false,Nat.reduceLT,Nat.reduceEqDiff,↓sD,↓D_g,memOk,lets0,lets1,List.not_mem_nil,not_false_eq_true,true_and,and_true,sG,opV,loudV,cellsOf,strOp,evL,Nat.reduceAdd,beq_self_eq_true,bne_self_eq_false,Int.reduceBEq,Int.reduceBNe,ti25,fa49_0,fr49_0,fv49_0,fa49_10,fr49_10,fv49_10,ti38,op_cells,List.all_cons,List.all_nil,icell_int,icell_str,icell_bool,hxc,Bool.and_self,opCells,hxd,hx.len,load_slice,load_int,tag_load2,tag_load,gt_iff_lt,ti25,ti49,tag_cells,tag_isC,tag_eql,tag_full,cat_at,cat_set,lth0,lth1,lth2,List.length_append,Nat.lt_add_one,hqi,hpi,wrapI (x := (t : Int) + 1) (by omega) (by omega),wrapI (x := (t : Int) - 1) (by omega) (by omega),hg13_3,hg13_9,hg13_12,decide_true,decide_false]
            refine hN13 _ ?_; try clear hN13 hD13 N13
            refine WC_condE ?_
            simp only [sS,↓sT,if_true,if_false,Nat.reduceLT,Nat.reduceEqDiff,↓stepC_bool]
            refine ⟨fun hb => (by cases hb),fun hb => ?_⟩
            refine WC_skip ?_
            refine hN11 _ ?_; try clear hN11 hD11 N11
            refine WC_regN (fun N17 hN17 => ?_)
            simp only [sS,↓sT,if_true,if_false,Nat.reduceLT,Nat.reduceEqDiff,↓sO,↓WOps_g,sG,opV,loudV,cellsOf,strOp,evL,Nat.reduceAdd,beq_self_eq_true,bne_self_eq_false,Int.reduceBEq,Int.reduceBNe,op_cells,List.all_cons,List.all_nil,icell_int,icell_str,icell_bool,hxc,Bool.and_self,opCells,hxd,hx.len,load_slice,load_int,tag_load2,tag_load,gt_iff_lt,ti25,ti49,tag_cells,tag_isC,tag_eql,tag_full,cat_at,cat_set,lth0,lth1,lth2,List.length_append,Nat.lt_add_one,hqi,hpi,wrapI (x := (t : Int) + 1) (by omega) (by omega),wrapI (x := (t : Int) - 1) (by omega) (by omega),decide_true,decide_false]
            refine hN17 _ ?_; try clear hN17 N17
            refine ⟨t + 1,⟨_,_,by rw [opCells,hxd],⟨rfl,rfl,rfl,rfl,trivial⟩,ht, ?_⟩,by omega⟩
            rw [hch,hst]; (simp_all [dropB] <;> (intro _; by_cases hA : q.fst = o.idR <;> simp_all))
        · simp only [sS,↓sT,if_true,if_false,Nat.reduceLT,Nat.reduceEqDiff,↓sD,↓D_g,memOk,lets0,lets1,List.not_mem_nil,not_false_eq_true,true_and,and_true,sG,opV,loudV,cellsOf,strOp,evL,Nat.reduceAdd,beq_self_eq_true,bne_self_eq_false,Int.reduceBEq,Int.reduceBNe,ti25,fa49_0,fr49_0,fv49_0,fa49_10,fr49_10,fv49_10,ti38,op_cells,List.all_cons,List.all_nil,icell_int,icell_str,icell_bool,hxc,Bool.and_self,opCells,hxd,hx.len,load_slice,load_int,tag_load2,tag_load,gt_iff_lt,ti25,ti49,tag_cells,tag_isC,tag_eql,tag_full,cat_at,cat_set,lth0,lth1,lth2,List.length_append,Nat.lt_add_one,hqi,hpi,wrapI (x := (t : Int) + 1) (by omega) (by omega),wrapI (x := (t : Int) - 1) (by omega) (by omega),hg13_3,hg13_9,decide_true,decide_false]
          refine hN13 _ ?_; try clear hN13 hD13 N13
          refine WC_condE ?_
          simp only [sS,↓sT,if_true,if_false,Nat.reduceLT,Nat.reduceEqDiff,↓stepC_bool]
          refine ⟨fun hb => ?_,fun hb => (by cases hb)⟩
          refine WC_seqR (fun N18 hN18 hD18 => ?_)
          simp only [sS,↓sT,if_true,if_false,Nat.reduceLT,Nat.reduceEqDiff,↓sO,↓WOps_g,sG,opV,loudV,cellsOf,strOp,evL,Nat.reduceAdd,beq_self_eq_true,bne_self_eq_false,Int.reduceBEq,Int.reduceBNe,op_cells,List.all_cons,List.all_nil,icell_int,icell_str,icell_bool,hxc,Bool.and_self,opCells,hxd,hx.len,load_slice,load_int,tag_load2,tag_load,gt_iff_lt,ti25,ti49,tag_cells,tag_isC,tag_eql,tag_full,cat_at,cat_set,lth0,lth1,lth2,List.length_append,Nat.lt_add_one,hqi,hpi,wrapI (x := (t : Int) + 1) (by omega) (by omega),wrapI (x := (t : Int) - 1) (by omega) (by omega),decide_true,decide_false]
          refine hN18 _ ?_; try clear hN18 hD18 N18
          refine WC_ret ?_; (try simp only [Exit.after,Exit.out]); refine Kend_ret (by simp only [resOf,resL,resV,mkS_get,slots_get,cellsOf,ti3,sS,↓sT,if_true,if_false,Nat.reduceLT,Nat.reduceEqDiff]; rfl) (by first | rfl | (simp only [ti3]; done) | (simp only [ti3,okV,ok1,okC,okP,List.all_cons,List.all_nil,Bool.and_true]; done)) ?_
          clear hN11 hD11 N11 hN6 hD6 N6
          rw [keep_bool,hspec]
          first | (have hc := of_decide_eq_true hb4; rw [decide_eq_false (by omega)]; rfl) | skip
          first | (rw [ht,List.drop_length] at hch; rw [hlen,hch]; rfl) | skip
          all_goals (rw [hlen,hch,hst]; simp_all [dropB])
      · simp only [sS,↓sT,if_true,if_false,Nat.reduceLT,Nat.reduceEqDiff,↓sD,↓D_g,memOk,lets0,lets1,List.not_mem_nil,not_false_eq_true,true_and,and_true,sG,opV,loudV,cellsOf,strOp,evL,Nat.reduceAdd,beq_self_eq_true,bne_self_eq_false,Int.reduceBEq,Int.reduceBNe,ti25,fa49_0,fr49_0,fv49_0,fa49_10,fr49_10,fv49_10,ti38,op_cells,List.all_cons,List.all_nil,icell_int,icell_str,icell_bool,hxc,Bool.and_self,opCells,hxd,hx.len,load_slice,load_int,tag_load2,tag_load,gt_iff_lt,ti25,ti49,tag_cells,tag_isC,tag_eql,tag_full,cat_at,cat_set,lth0,lth1,lth2,List.length_append,Nat.lt_add_one,hqi,hpi,wrapI (x := (t : Int) + 1) (by omega) (by omega),wrapI (x := (t : Int) - 1) (by omega) (by omega),hg13_3,decide_true,decide_false]
        refine hN13 _ ?_; try clear hN13 hD13 N13
        refine WC_condE ?_
        simp only [sS,↓sT,if_true,if_false,Nat.reduceLT,Nat.reduceEqDiff,↓stepC_bool]
        refine ⟨fun hb => ?_,fun hb => (by cases hb)⟩
        refine WC_seqR (fun N19 hN19 hD19 => ?_)
        simp only [sS,↓sT,if_true,if_false,Nat.reduceLT,Nat.reduceEqDiff,↓sO,↓WOps_g,sG,opV,loudV,cellsOf,strOp,evL,Nat.reduceAdd,beq_self_eq_true,bne_self_eq_false,Int.reduceBEq,Int.reduceBNe,op_cells,List.all_cons,List.all_nil,icell_int,icell_str,icell_bool,hxc,Bool.and_self,opCells,hxd,hx.len,load_slice,load_int,tag_load2,tag_load,gt_iff_lt,ti25,ti49,tag_cells,tag_isC,tag_eql,tag_full,cat_at,cat_set,lth0,lth1,lth2,List.length_append,Nat.lt_add_one,hqi,hpi,wrapI (x := (t : Int) + 1) (by omega) (by omega),wrapI (x := (t : Int) - 1) (by omega) (by omega),decide_true,decide_false]
        refine hN19 _ ?_; try clear hN19 hD19 N19
        refine WC_ret ?_; (try simp only [Exit.after,Exit.out]); refine Kend_ret (by simp only [resOf,resL,resV,mkS_get,slots_get,cellsOf,ti3,sS,↓sT,if_true,if_false,Nat.reduceLT,Nat.reduceEqDiff]; rfl) (by first | rfl | (simp only [ti3]; done) | (simp only [ti3,okV,ok1,okC,okP,List.all_cons,List.all_nil,Bool.and_true]; done)) ?_
        clear hN11 hD11 N11 hN6 hD6 N6
        rw [keep_bool,hspec]
        first | (have hc := of_decide_eq_true hb4; rw [decide_eq_false (by omega)]; rfl) | skip
        first | (rw [ht,List.drop_length] at hch; rw [hlen,hch]; rfl) | skip
        all_goals (rw [hlen,hch,hst]; simp_all [dropB])
    · have ht : t = l.length := by have := of_decide_eq_false hb10; omega
      clear hb10
      refine WC_exit ?_
      refine hN6 _ ?_; try clear hN6 hD6 N6
      refine WC_seqR (fun N20 hN20 hD20 => ?_)
      simp only [sS,↓sT,if_true,if_false,Nat.reduceLT,Nat.reduceEqDiff,↓sO,↓WOps_g,sG,opV,loudV,cellsOf,strOp,evL,Nat.reduceAdd,beq_self_eq_true,bne_self_eq_false,Int.reduceBEq,Int.reduceBNe,op_cells,List.all_cons,List.all_nil,icell_int,icell_str,icell_bool,hxc,Bool.and_self,opCells,hxd,hx.len,load_slice,load_int,tag_load2,tag_load,gt_iff_lt,ti25,ti49,tag_cells,tag_isC,tag_eql,tag_full,cat_at,cat_set,lth0,lth1,lth2,List.length_append,Nat.lt_add_one,decide_true,decide_false]
      refine hN20 _ ?_; try clear hN20 hD20 N20
      refine WC_ret ?_; (try simp only [Exit.after,Exit.out]); refine Kend_ret (by simp only [resOf,resL,resV,mkS_get,slots_get,cellsOf,ti3,sS,↓sT,if_true,if_false,Nat.reduceLT,Nat.reduceEqDiff]; rfl) (by first | rfl | (simp only [ti3]; done) | (simp only [ti3,okV,ok1,okC,okP,List.all_cons,List.all_nil,Bool.and_true]; done)) ?_
      clear hN9 hD9 N9
      rw [keep_bool,hspec]
      first | (have hc := of_decide_eq_true hb4; rw [decide_eq_false (by omega)]; rfl) | skip
      first | (rw [ht,List.drop_length] at hch; rw [hlen,hch]; rfl) | skip
      all_goals (rw [hlen,hch,hst]; simp_all [dropB])
theorem c_punnet_punnetref20_drops (o : OpS) : VC Try.prog 67 [opW o] [] (fun r _ => r = .bool (dropsB o)) := by
  refine VC_enter (nt := 51) (rs := [.tmp 2]) (ow := []) (m := 0) Try.func67 rfl (by rfl) rfl rfl (by simp) (by simp [ownOf,op_toks]) rfl (fun n => ?_)
  simp only [zipT,Nat.zero_add]
  have hx := dropsW_TS o.drops
  obtain ⟨l,hl⟩ : ∃ l,o.drops.l = l := ⟨_,rfl⟩
  obtain ⟨x,hxd⟩ : ∃ x,dropsW o.drops = x := ⟨_,rfl⟩
  have hspec : dropsB o = (decide ((l.length : Int) ≤ 60) && chainB (o.idR,o.idN) none l) := by rw [dropsB,OpS.dropsL,hl]
  have hxc : x.isCell = true := hxd ▸ dropsW_isC o.drops
  rw [hl,hxd] at hx
  refine WC_seqR (fun N1 hN1 hD1 => ?_)
  simp only [sS,↓sT,if_true,if_false,Nat.reduceLT,Nat.reduceEqDiff,↓sO,↓WOps_g,sG,opV,loudV,cellsOf,strOp,evL,Nat.reduceAdd,beq_self_eq_true,bne_self_eq_false,Int.reduceBEq,Int.reduceBNe,op_cells,List.all_cons,List.all_nil,icell_int,icell_str,icell_bool,hxc,Bool.and_self,opCells,hxd,hx.len,load_slice,load_int,tag_load2,tag_load,gt_iff_lt,ti25,ti49,tag_cells,tag_isC,tag_eql,tag_full,cat_at,cat_set,lth0,lth1,lth2,List.length_append,Nat.lt_add_one,decide_true,decide_false]
  refine hN1 _ ?_; try clear hN1 hD1 N1
  refine WC_seqN (fun N2 hN2 hD2 => ?_)
  refine WC_seqR (fun N3 hN3 hD3 => ?_)
  simp only [sS,↓sT,if_true,if_false,Nat.reduceLT,Nat.reduceEqDiff,↓sO,↓WOps_g,sG,opV,loudV,cellsOf,strOp,evL,Nat.reduceAdd,beq_self_eq_true,bne_self_eq_false,Int.reduceBEq,Int.reduceBNe,fa49_10,fr49_10,fv49_10,ti38,op_cells,List.all_cons,List.all_nil,icell_int,icell_str,icell_bool,hxc,Bool.and_self,opCells,hxd,hx.len,load_slice,load_int,tag_load2,tag_load,gt_iff_lt,ti25,ti49,tag_cells,tag_isC,tag_eql,tag_full,cat_at,cat_set,lth0,lth1,lth2,List.length_append,Nat.lt_add_one,decide_true,decide_false]
  refine hN3 _ ?_; try clear hN3 hD3 N3
  refine WC_condE ?_
  simp only [sS,↓sT,if_true,if_false,Nat.reduceLT,Nat.reduceEqDiff,↓stepC_bool]
  refine ⟨fun hb4 => ?_,fun hb4 => ?_⟩
  · refine WC_seqR (fun N5 hN5 hD5 => ?_)
    simp only [sS,↓sT,if_true,if_false,Nat.reduceLT,Nat.reduceEqDiff,↓sO,↓WOps_g,sG,opV,loudV,cellsOf,strOp,evL,Nat.reduceAdd,beq_self_eq_true,bne_self_eq_false,Int.reduceBEq,Int.reduceBNe,op_cells,List.all_cons,List.all_nil,icell_int,icell_str,icell_bool,hxc,Bool.and_self,opCells,hxd,hx.len,load_slice,load_int,tag_load2,tag_load,gt_iff_lt,ti25,ti49,tag_cells,tag_isC,tag_eql,tag_full,cat_at,cat_set,lth0,lth1,lth2,List.length_append,Nat.lt_add_one,decide_true,decide_false]
    refine hN5 _ ?_; try clear hN5 hD5 N5
    refine WC_ret ?_; (try simp only [Exit.after,Exit.out]); refine Kend_ret (by simp only [resOf,resL,resV,mkS_get,slots_get,cellsOf,ti3,sS,↓sT,if_true,if_false,Nat.reduceLT,Nat.reduceEqDiff]; rfl) (by first | rfl | (simp only [ti3]; done) | (simp only [ti3,okV,ok1,okC,okP,List.all_cons,List.all_nil,Bool.and_true]; done)) ?_
    clear hN2 hD2 N2
    rw [keep_bool,hspec]
    first | (have hc := of_decide_eq_true hb4; rw [decide_eq_false (by omega)]; rfl) | skip
    first | (rw [ht,List.drop_length] at hch; rw [hlen,hch]; rfl) | skip
    all_goals (rw [hlen,hch,hst]; simp_all [dropB])
  · refine WC_skip ?_
    refine hN2 _ ?_; try clear hN2 hD2 N2
    refine WC_seqN (fun N6 hN6 hD6 => ?_)
    refine WC_seqR (fun N7 hN7 hD7 => ?_)
    simp only [sS,↓sT,if_true,if_false,Nat.reduceLT,Nat.reduceEqDiff,↓sO,↓WOps_g,sG,opV,loudV,cellsOf,strOp,evL,Nat.reduceAdd,beq_self_eq_true,bne_self_eq_false,Int.reduceBEq,Int.reduceBNe,op_cells,List.all_cons,List.all_nil,icell_int,icell_str,icell_bool,hxc,Bool.and_self,opCells,hxd,hx.len,load_slice,load_int,tag_load2,tag_load,gt_iff_lt,ti25,ti49,tag_cells,tag_isC,tag_eql,tag_full,cat_at,cat_set,lth0,lth1,lth2,List.length_append,Nat.lt_add_one,decide_true,decide_false]
    refine hN7 _ ?_; try clear hN7 hD7 N7
    refine WC_block ?_
    have hlen : decide ((l.length : Int) ≤ 60) = true := decide_eq_true (by have := of_decide_eq_false hb4; omega)
    have hl60 : l.length ≤ 60 := by have := of_decide_eq_true hlen; omega
    refine WC_loopG (σ := Nat) (fun t s => ∃ ps,s = ⟨mkS 51 ps, [opCells o], [],n⟩ ∧ Has ps [(1, .ptr 0 0),(3, .int .i64 t)] ∧ t ≤ l.length ∧ chainB (o.idR,o.idN) none l = chainB (o.idR,o.idN) (prevAt l t) (l.drop t)) (fun t => l.length - t) 0 ?_ (fun t s hI => ?_)
    · exact ⟨_,by rw [opCells,hxd],⟨rfl,rfl,trivial⟩,by omega,rfl⟩
    obtain ⟨ps,rfl,hps,htl,hch⟩ := hI
    refine WC_has hps ?_; clear hps ps
    refine WC_seqN (fun N8 hN8 hD8 => ?_)
    refine WC_seqR (fun N9 hN9 hD9 => ?_)
    simp only [sS,↓sT,if_true,if_false,Nat.reduceLT,Nat.reduceEqDiff,↓sO,↓WOps_g,sG,opV,loudV,cellsOf,strOp,evL,Nat.reduceAdd,beq_self_eq_true,bne_self_eq_false,Int.reduceBEq,Int.reduceBNe,fa49_10,fr49_10,fv49_10,ti38,op_cells,List.all_cons,List.all_nil,icell_int,icell_str,icell_bool,hxc,Bool.and_self,opCells,hxd,hx.len,load_slice,load_int,tag_load2,tag_load,gt_iff_lt,ti25,ti49,tag_cells,tag_isC,tag_eql,tag_full,cat_at,cat_set,lth0,lth1,lth2,List.length_append,Nat.lt_add_one,decide_true,decide_false]
    refine hN9 _ ?_; try clear hN9 hD9 N9
    refine WC_condE ?_
    simp only [sS,↓sT,if_true,if_false,Nat.reduceLT,Nat.reduceEqDiff,↓stepC_bool]
    refine ⟨fun hb10 => ?_,fun hb10 => ?_⟩
    · have ht : t < l.length := by have := of_decide_eq_true hb10; omega
      clear hb10
      obtain ⟨q,hq⟩ : ∃ q,l[t]? = some q := ⟨_,List.getElem?_eq_getElem ht⟩
      obtain ⟨p,hp⟩ : ∃ p,0 < t → l[t - 1]? = some p := ⟨l.getD (t - 1) q,fun h => by simp [List.getD,List.getElem?_eq_getElem (show t - 1 < l.length by omega)]⟩
      have hst := chain_step (id := (o.idR,o.idN)) hq
      have hqi := hx.ia hq
      have hpi : decide (0 < (t : Int)) = true → indexAddrV Try.prog 38 x (.int .i64 ((t : Int) - 1)) = some (.rptr [.int .i64 p.1, .int .i64 p.2]) := fun h => by
        have h := of_decide_eq_true h
        have := hx.ia (hp (by omega))
        rwa [show ((t - 1 : Nat) : Int) = (t : Int) - 1 from by omega] at this
      have hpv : prevAt l t = if decide (0 < (t : Int)) = true then some p else none := by
        unfold prevAt
        by_cases h : t = 0
        · rw [if_pos h,if_neg (by simp; omega)]
        · rw [if_neg h,if_pos (by simp; omega),hp (by omega)]
      rw [hpv] at hst hch
      clear hpv
      refine WC_skip ?_
      refine hN8 _ ?_; try clear hN8 hD8 N8
      refine WC_seqN (fun N11 hN11 hD11 => ?_)
      refine WC_block ?_
      refine WC_seqD mixed [] [0,0,0,0,0,0,0,0,0,0,0,0,0,0,0,0,0,0,0,0,0,0,0,0,0,0,0,0,0,0,0,0,0,0,0,0] (by decide +kernel) (fun N12 hN12 hD12 => ?_)
      simp only [sS,↓sT,if_true,if_false,Nat.reduceLT,Nat.reduceEqDiff,↓sD,↓D_g,memOk,lets0,lets1,List.not_mem_nil,not_false_eq_true,true_and,and_true,sG,opV,loudV,cellsOf,strOp,evL,Nat.reduceAdd,beq_self_eq_true,bne_self_eq_false,Int.reduceBEq,Int.reduceBNe,fa49_10,fr49_10,fv49_10,ti38,ti25,fa49_0,fr49_0,fv49_0,op_cells,List.all_cons,List.all_nil,icell_int,icell_str,icell_bool,hxc,Bool.and_self,opCells,hxd,hx.len,load_slice,load_int,tag_load2,tag_load,gt_iff_lt,ti25,ti49,tag_cells,tag_isC,tag_eql,tag_full,cat_at,cat_set,lth0,lth1,lth2,List.length_append,Nat.lt_add_one,hqi,hpi,wrapI (x := (t : Int) + 1) (by omega) (by omega),wrapI (x := (t : Int) - 1) (by omega) (by omega),decide_true,decide_false]
      refine D_callP (c_punnet_punnetref17_Tag _ _) (by simp only [ev_func]) (by simp only [evL,sS,↓sT,if_true,if_false,Nat.reduceLT,Nat.reduceEqDiff]; rfl) (by first | rfl | (simp only [List.map,tag_bare]; done) | (simp only [List.map,tag_bare]; exact rfl)) (by first | rfl | simp [tag_noP]) (by first | rfl | simp [tag_noP]) rfl ?_
      simp only [sS,↓sT,if_true,if_false,Nat.reduceLT,Nat.reduceEqDiff,↓sD,↓D_g,memOk,lets0,lets1,List.not_mem_nil,not_false_eq_true,true_and,and_true,sG,opV,loudV,cellsOf,strOp,evL,Nat.reduceAdd,beq_self_eq_true,bne_self_eq_false,Int.reduceBEq,Int.reduceBNe,fa49_10,fr49_10,fv49_10,ti38,ti25,fa49_0,fr49_0,fv49_0,op_cells,List.all_cons,List.all_nil,icell_int,icell_str,icell_bool,hxc,Bool.and_self,opCells,hxd,hx.len,load_slice,load_int,tag_load2,tag_load,gt_iff_lt,ti25,ti49,tag_cells,tag_isC,tag_eql,tag_full,cat_at,cat_set,lth0,lth1,lth2,List.length_append,Nat.lt_add_one,hqi,hpi,wrapI (x := (t : Int) + 1) (by omega) (by omega),wrapI (x := (t : Int) - 1) (by omega) (by omega),decide_true,decide_false]
      refine stepB_F (fun hg12_7 => ?_) (fun hg12_7 => ?_)
      · simp only [sS,↓sT,if_true,if_false,Nat.reduceLT,Nat.reduceEqDiff,↓sD,↓D_g,memOk,lets0,lets1,List.not_mem_nil,not_false_eq_true,true_and,and_true,sG,opV,loudV,cellsOf,strOp,evL,Nat.reduceAdd,beq_self_eq_true,bne_self_eq_false,Int.reduceBEq,Int.reduceBNe,fa49_10,fr49_10,fv49_10,ti38,ti25,fa49_0,fr49_0,fv49_0,op_cells,List.all_cons,List.all_nil,icell_int,icell_str,icell_bool,hxc,Bool.and_self,opCells,hxd,hx.len,load_slice,load_int,tag_load2,tag_load,gt_iff_lt,ti25,ti49,tag_cells,tag_isC,tag_eql,tag_full,cat_at,cat_set,lth0,lth1,lth2,List.length_append,Nat.lt_add_one,hqi,hpi,wrapI (x := (t : Int) + 1) (by omega) (by omega),wrapI (x := (t : Int) - 1) (by omega) (by omega),hg12_7,decide_true,decide_false]
        refine stepB_F (fun hg12_17 => ?_) (fun hg12_17 => ?_)
        · simp only [sS,↓sT,if_true,if_false,Nat.reduceLT,Nat.reduceEqDiff,↓sD,↓D_g,memOk,lets0,lets1,List.not_mem_nil,not_false_eq_true,true_and,and_true,sG,opV,loudV,cellsOf,strOp,evL,Nat.reduceAdd,beq_self_eq_true,bne_self_eq_false,Int.reduceBEq,Int.reduceBNe,fa49_10,fr49_10,fv49_10,ti38,ti25,fa49_0,fr49_0,fv49_0,op_cells,List.all_cons,List.all_nil,icell_int,icell_str,icell_bool,hxc,Bool.and_self,opCells,hxd,hx.len,load_slice,load_int,tag_load2,tag_load,gt_iff_lt,ti25,ti49,tag_cells,tag_isC,tag_eql,tag_full,cat_at,cat_set,lth0,lth1,lth2,List.length_append,Nat.lt_add_one,hqi,hpi,wrapI (x := (t : Int) + 1) (by omega) (by omega),wrapI (x := (t : Int) - 1) (by omega) (by omega),hg12_7,hg12_17,decide_true,decide_false]
          refine stepB_T (fun hg12_20 => ?_) (fun hg12_20 => ?_)
          · simp only [sS,↓sT,if_true,if_false,Nat.reduceLT,Nat.reduceEqDiff,↓sD,↓D_g,memOk,lets0,lets1,List.not_mem_nil,not_false_eq_true,true_and,and_true,sG,opV,loudV,cellsOf,strOp,evL,Nat.reduceAdd,beq_self_eq_true,bne_self_eq_false,Int.reduceBEq,Int.reduceBNe,fa49_10,fr49_10,fv49_10,ti38,ti25,fa49_0,fr49_0,fv49_0,op_cells,List.all_cons,List.all_nil,icell_int,icell_str,icell_bool,hxc,Bool.and_self,opCells,hxd,hx.len,load_slice,load_int,tag_load2,tag_load,gt_iff_lt,ti25,ti49,tag_cells,tag_isC,tag_eql,tag_full,cat_at,cat_set,lth0,lth1,lth2,List.length_append,Nat.lt_add_one,hqi,hpi,wrapI (x := (t : Int) + 1) (by omega) (by omega),wrapI (x := (t : Int) - 1) (by omega) (by omega),hg12_7,hg12_17,hg12_20,decide_true,decide_false]
            refine D_callP (c_punnet_punnetref17_Less _ _ _ _) (by simp only [ev_func]) (by simp only [evL,sS,↓sT,if_true,if_false,Nat.reduceLT,Nat.reduceEqDiff]; rfl) (by first | rfl | (simp only [List.map,tag_bare]; done) | (simp only [List.map,tag_bare]; exact rfl)) (by first | rfl | simp [tag_noP]) (by first | rfl | simp [tag_noP]) rfl ?_
            simp only [sS,↓sT,if_true,if_false,Nat.reduceLT,Nat.reduceEqDiff,↓sD,↓D_g,memOk,lets0,lets1,List.not_mem_nil,not_false_eq_true,true_and,and_true,sG,opV,loudV,cellsOf,strOp,evL,Nat.reduceAdd,beq_self_eq_true,bne_self_eq_false,Int.reduceBEq,Int.reduceBNe,fa49_10,fr49_10,fv49_10,ti38,ti25,fa49_0,fr49_0,fv49_0,op_cells,List.all_cons,List.all_nil,icell_int,icell_str,icell_bool,hxc,Bool.and_self,opCells,hxd,hx.len,load_slice,load_int,tag_load2,tag_load,gt_iff_lt,ti25,ti49,tag_cells,tag_isC,tag_eql,tag_full,cat_at,cat_set,lth0,lth1,lth2,List.length_append,Nat.lt_add_one,hqi,hpi,wrapI (x := (t : Int) + 1) (by omega) (by omega),wrapI (x := (t : Int) - 1) (by omega) (by omega),hg12_7,hg12_17,hg12_20,decide_true,decide_false]
            refine hN12 _ ?_; try clear hN12 hD12 N12
            refine WC_condE ?_
            simp only [sS,↓sT,if_true,if_false,Nat.reduceLT,Nat.reduceEqDiff,↓stepC_bool]
            refine ⟨fun hb13 => ?_,fun hb13 => ?_⟩
            · refine WC_seqR (fun N14 hN14 hD14 => ?_)
              simp only [sS,↓sT,if_true,if_false,Nat.reduceLT,Nat.reduceEqDiff,↓sO,↓WOps_g,sG,opV,loudV,cellsOf,strOp,evL,Nat.reduceAdd,beq_self_eq_true,bne_self_eq_false,Int.reduceBEq,Int.reduceBNe,op_cells,List.all_cons,List.all_nil,icell_int,icell_str,icell_bool,hxc,Bool.and_self,opCells,hxd,hx.len,load_slice,load_int,tag_load2,tag_load,gt_iff_lt,ti25,ti49,tag_cells,tag_isC,tag_eql,tag_full,cat_at,cat_set,lth0,lth1,lth2,List.length_append,Nat.lt_add_one,hqi,hpi,wrapI (x := (t : Int) + 1) (by omega) (by omega),wrapI (x := (t : Int) - 1) (by omega) (by omega),decide_true,decide_false]
              refine hN14 _ ?_; try clear hN14 hD14 N14
              refine WC_ret ?_; (try simp only [Exit.after,Exit.out]); refine Kend_ret (by simp only [resOf,resL,resV,mkS_get,slots_get,cellsOf,ti3,sS,↓sT,if_true,if_false,Nat.reduceLT,Nat.reduceEqDiff]; rfl) (by first | rfl | (simp only [ti3]; done) | (simp only [ti3,okV,ok1,okC,okP,List.all_cons,List.all_nil,Bool.and_true]; done)) ?_
              clear hN11 hD11 N11 hN6 hD6 N6
              rw [keep_bool,hspec]
              first | (have hc := of_decide_eq_true hb4; rw [decide_eq_false (by omega)]; rfl) | skip
              first | (rw [ht,List.drop_length] at hch; rw [hlen,hch]; rfl) | skip
              all_goals (rw [hlen,hch,hst]; simp_all [dropB])
            · refine WC_skip ?_
              refine hN11 _ ?_; try clear hN11 hD11 N11
              refine WC_regN (fun N15 hN15 => ?_)
              simp only [sS,↓sT,if_true,if_false,Nat.reduceLT,Nat.reduceEqDiff,↓sO,↓WOps_g,sG,opV,loudV,cellsOf,strOp,evL,Nat.reduceAdd,beq_self_eq_true,bne_self_eq_false,Int.reduceBEq,Int.reduceBNe,op_cells,List.all_cons,List.all_nil,icell_int,icell_str,icell_bool,hxc,Bool.and_self,opCells,hxd,hx.len,load_slice,load_int,tag_load2,tag_load,gt_iff_lt,ti25,ti49,tag_cells,tag_isC,tag_eql,tag_full,cat_at,cat_set,lth0,lth1,lth2,List.length_append,Nat.lt_add_one,hqi,hpi,wrapI (x := (t : Int) + 1) (by omega) (by omega),wrapI (x := (t : Int) - 1) (by omega) (by omega),decide_true,decide_false]
              refine hN15 _ ?_; try clear hN15 N15
              refine ⟨t + 1,⟨_,by rw [opCells,hxd],⟨rfl,rfl,trivial⟩,ht, ?_⟩,by omega⟩
              rw [hch,hst]; (simp_all [dropB] <;> (intro _; by_cases hA : q.fst = o.idR <;> simp_all))
          · simp only [sS,↓sT,if_true,if_false,Nat.reduceLT,Nat.reduceEqDiff,↓sD,↓D_g,memOk,lets0,lets1,List.not_mem_nil,not_false_eq_true,true_and,and_true,sG,opV,loudV,cellsOf,strOp,evL,Nat.reduceAdd,beq_self_eq_true,bne_self_eq_false,Int.reduceBEq,Int.reduceBNe,fa49_10,fr49_10,fv49_10,ti38,ti25,fa49_0,fr49_0,fv49_0,op_cells,List.all_cons,List.all_nil,icell_int,icell_str,icell_bool,hxc,Bool.and_self,opCells,hxd,hx.len,load_slice,load_int,tag_load2,tag_load,gt_iff_lt,ti25,ti49,tag_cells,tag_isC,tag_eql,tag_full,cat_at,cat_set,lth0,lth1,lth2,List.length_append,Nat.lt_add_one,hqi,hpi,wrapI (x := (t : Int) + 1) (by omega) (by omega),wrapI (x := (t : Int) - 1) (by omega) (by omega),hg12_7,hg12_17,hg12_20,decide_true,decide_false]
            refine hN12 _ ?_; try clear hN12 hD12 N12
            refine WC_condE ?_
            simp only [sS,↓sT,if_true,if_false,Nat.reduceLT,Nat.reduceEqDiff,↓stepC_bool]
            refine ⟨fun hb => (by cases hb),fun hb => ?_⟩
            refine WC_skip ?_
            refine hN11 _ ?_; try clear hN11 hD11 N11
            refine WC_regN (fun N16 hN16 => ?_)
            simp only [sS,↓sT,if_true,if_false,Nat.reduceLT,Nat.reduceEqDiff,↓sO,↓WOps_g,sG,opV,loudV,cellsOf,strOp,evL,Nat.reduceAdd,beq_self_eq_true,bne_self_eq_false,Int.reduceBEq,Int.reduceBNe,op_cells,List.all_cons,List.all_nil,icell_int,icell_str,icell_bool,hxc,Bool.and_self,opCells,hxd,hx.len,load_slice,load_int,tag_load2,tag_load,gt_iff_lt,ti25,ti49,tag_cells,tag_isC,tag_eql,tag_full,cat_at,cat_set,lth0,lth1,lth2,List.length_append,Nat.lt_add_one,hqi,hpi,wrapI (x := (t : Int) + 1) (by omega) (by omega),wrapI (x := (t : Int) - 1) (by omega) (by omega),decide_true,decide_false]
            refine hN16 _ ?_; try clear hN16 N16
            refine ⟨t + 1,⟨_,by rw [opCells,hxd],⟨rfl,rfl,trivial⟩,ht, ?_⟩,by omega⟩
            rw [hch,hst]; (simp_all [dropB] <;> (intro _; by_cases hA : q.fst = o.idR <;> simp_all))
        · simp only [sS,↓sT,if_true,if_false,Nat.reduceLT,Nat.reduceEqDiff,↓sD,↓D_g,memOk,lets0,lets1,List.not_mem_nil,not_false_eq_true,true_and,and_true,sG,opV,loudV,cellsOf,strOp,evL,Nat.reduceAdd,beq_self_eq_true,bne_self_eq_false,Int.reduceBEq,Int.reduceBNe,fa49_10,fr49_10,fv49_10,ti38,ti25,fa49_0,fr49_0,fv49_0,op_cells,List.all_cons,List.all_nil,icell_int,icell_str,icell_bool,hxc,Bool.and_self,opCells,hxd,hx.len,load_slice,load_int,tag_load2,tag_load,gt_iff_lt,ti25,ti49,tag_cells,tag_isC,tag_eql,tag_full,cat_at,cat_set,lth0,lth1,lth2,List.length_append,Nat.lt_add_one,hqi,hpi,wrapI (x := (t : Int) + 1) (by omega) (by omega),wrapI (x := (t : Int) - 1) (by omega) (by omega),hg12_7,hg12_17,decide_true,decide_false]
          refine hN12 _ ?_; try clear hN12 hD12 N12
          refine WC_condE ?_
          simp only [sS,↓sT,if_true,if_false,Nat.reduceLT,Nat.reduceEqDiff,↓stepC_bool]
          refine ⟨fun hb => ?_,fun hb => (by cases hb)⟩
          refine WC_seqR (fun N17 hN17 hD17 => ?_)
          simp only [sS,↓sT,if_true,if_false,Nat.reduceLT,Nat.reduceEqDiff,↓sO,↓WOps_g,sG,opV,loudV,cellsOf,strOp,evL,Nat.reduceAdd,beq_self_eq_true,bne_self_eq_false,Int.reduceBEq,Int.reduceBNe,op_cells,List.all_cons,List.all_nil,icell_int,icell_str,icell_bool,hxc,Bool.and_self,opCells,hxd,hx.len,load_slice,load_int,tag_load2,tag_load,gt_iff_lt,ti25,ti49,tag_cells,tag_isC,tag_eql,tag_full,cat_at,cat_set,lth0,lth1,lth2,List.length_append,Nat.lt_add_one,hqi,hpi,wrapI (x := (t : Int) + 1) (by omega) (by omega),wrapI (x := (t : Int) - 1) (by omega) (by omega),decide_true,decide_false]
          refine hN17 _ ?_; try clear hN17 hD17 N17
          refine WC_ret ?_; (try simp only [Exit.after,Exit.out]); refine Kend_ret (by simp only [resOf,resL,resV,mkS_get,slots_get,cellsOf,ti3,sS,↓sT,if_true,if_false,Nat.reduceLT,Nat.reduceEqDiff]; rfl) (by first | rfl | (simp only [ti3]; done) | (simp only [ti3,okV,ok1,okC,okP,List.all_cons,List.all_nil,Bool.and_true]; done)) ?_
          clear hN11 hD11 N11 hN6 hD6 N6
          rw [keep_bool,hspec]
          first | (have hc := of_decide_eq_true hb4; rw [decide_eq_false (by omega)]; rfl) | skip
          first | (rw [ht,List.drop_length] at hch; rw [hlen,hch]; rfl) | skip
          all_goals (rw [hlen,hch,hst]; simp_all [dropB])
      · simp only [sS,↓sT,if_true,if_false,Nat.reduceLT,Nat.reduceEqDiff,↓sD,↓D_g,memOk,lets0,lets1,List.not_mem_nil,not_false_eq_true,true_and,and_true,sG,opV,loudV,cellsOf,strOp,evL,Nat.reduceAdd,beq_self_eq_true,bne_self_eq_false,Int.reduceBEq,Int.reduceBNe,fa49_10,fr49_10,fv49_10,ti38,ti25,fa49_0,fr49_0,fv49_0,op_cells,List.all_cons,List.all_nil,icell_int,icell_str,icell_bool,hxc,Bool.and_self,opCells,hxd,hx.len,load_slice,load_int,tag_load2,tag_load,gt_iff_lt,ti25,ti49,tag_cells,tag_isC,tag_eql,tag_full,cat_at,cat_set,lth0,lth1,lth2,List.length_append,Nat.lt_add_one,hqi,hpi,wrapI (x := (t : Int) + 1) (by omega) (by omega),wrapI (x := (t : Int) - 1) (by omega) (by omega),hg12_7,decide_true,decide_false]
        refine hN12 _ ?_; try clear hN12 hD12 N12
        refine WC_condE ?_
        simp only [sS,↓sT,if_true,if_false,Nat.reduceLT,Nat.reduceEqDiff,↓stepC_bool]
        refine ⟨fun hb => ?_,fun hb => (by cases hb)⟩
        refine WC_seqR (fun N18 hN18 hD18 => ?_)
        simp only [sS,↓sT,if_true,if_false,Nat.reduceLT,Nat.reduceEqDiff,↓sO,↓WOps_g,sG,opV,loudV,cellsOf,strOp,evL,Nat.reduceAdd,beq_self_eq_true,bne_self_eq_false,Int.reduceBEq,Int.reduceBNe,op_cells,List.all_cons,List.all_nil,icell_int,icell_str,icell_bool,hxc,Bool.and_self,opCells,hxd,hx.len,load_slice,load_int,tag_load2,tag_load,gt_iff_lt,ti25,ti49,tag_cells,tag_isC,tag_eql,tag_full,cat_at,cat_set,lth0,lth1,lth2,List.length_append,Nat.lt_add_one,hqi,hpi,wrapI (x := (t : Int) + 1) (by omega) (by omega),wrapI (x := (t : Int) - 1) (by omega) (by omega),decide_true,decide_false]
        refine hN18 _ ?_; try clear hN18 hD18 N18
        refine WC_ret ?_; (try simp only [Exit.after,Exit.out]); refine Kend_ret (by simp only [resOf,resL,resV,mkS_get,slots_get,cellsOf,ti3,sS,↓sT,if_true,if_false,Nat.reduceLT,Nat.reduceEqDiff]; rfl) (by first | rfl | (simp only [ti3]; done) | (simp only [ti3,okV,ok1,okC,okP,List.all_cons,List.all_nil,Bool.and_true]; done)) ?_
        clear hN11 hD11 N11 hN6 hD6 N6
        rw [keep_bool,hspec]
        first | (have hc := of_decide_eq_true hb4; rw [decide_eq_false (by omega)]; rfl) | skip
        first | (rw [ht,List.drop_length] at hch; rw [hlen,hch]; rfl) | skip
        all_goals (rw [hlen,hch,hst]; simp_all [dropB])
    · have ht : t = l.length := by have := of_decide_eq_false hb10; omega
      clear hb10
      refine WC_exit ?_
      refine hN6 _ ?_; try clear hN6 hD6 N6
      refine WC_seqR (fun N19 hN19 hD19 => ?_)
      simp only [sS,↓sT,if_true,if_false,Nat.reduceLT,Nat.reduceEqDiff,↓sO,↓WOps_g,sG,opV,loudV,cellsOf,strOp,evL,Nat.reduceAdd,beq_self_eq_true,bne_self_eq_false,Int.reduceBEq,Int.reduceBNe,op_cells,List.all_cons,List.all_nil,icell_int,icell_str,icell_bool,hxc,Bool.and_self,opCells,hxd,hx.len,load_slice,load_int,tag_load2,tag_load,gt_iff_lt,ti25,ti49,tag_cells,tag_isC,tag_eql,tag_full,cat_at,cat_set,lth0,lth1,lth2,List.length_append,Nat.lt_add_one,decide_true,decide_false]
      refine hN19 _ ?_; try clear hN19 hD19 N19
      refine WC_ret ?_; (try simp only [Exit.after,Exit.out]); refine Kend_ret (by simp only [resOf,resL,resV,mkS_get,slots_get,cellsOf,ti3,sS,↓sT,if_true,if_false,Nat.reduceLT,Nat.reduceEqDiff]; rfl) (by first | rfl | (simp only [ti3]; done) | (simp only [ti3,okV,ok1,okC,okP,List.all_cons,List.all_nil,Bool.and_true]; done)) ?_
      clear hN8 hD8 N8
      rw [keep_bool,hspec]
      first | (have hc := of_decide_eq_true hb4; rw [decide_eq_false (by omega)]; rfl) | skip
      first | (rw [ht,List.drop_length] at hch; rw [hlen,hch]; rfl) | skip
      all_goals (rw [hlen,hch,hst]; simp_all [dropB])
end Go.PV
/- Whether two ops are the same. -/
namespace Go.PV
open Go.Proofs
set_option linter.unusedVariables false
set_option linter.unusedSimpArgs false
set_option maxRecDepth 10000
set_option maxHeartbeats 1000000

theorem take_eq {l m : List (Int × Int)} {t : Nat} {p q : Int × Int} (hp : l[t]? = some p) (hq : m[t]? = some q) (h : l.take t = m.take t) (hpq : p = q) : l.take (t + 1) = m.take (t + 1) := by
  rw [List.take_add_one,List.take_add_one,hp,hq,h,hpq]
theorem ne_of_at {l m : List (Int × Int)} {t : Nat} {p q : Int × Int} (hp : l[t]? = some p) (hq : m[t]? = some q) (h : ((p.1 == q.1) && (p.2 == q.2)) = false) : (l == m) = false := by
  rw [beq_eq_false_iff_ne]
  intro he
  subst he
  rw [hp] at hq
  obtain rfl := Option.some.inj hq
  simp at h
theorem c_slices_Equal_punnet_api_Tag_punnet_api_Tag_ (l m : List (Int × Int)) (x y : V) (hx : TS l x) (hy : TS m y) (hL : l.length ≤ 4611686018427387904) : VC Try.prog 61 [x, y] [] (fun r _ => r = .bool (l == m)) := by
  refine VC_enter (nt := 26) (rs := [.tmp 4]) (ow := []) (m := 0) Try.func61 rfl (by rfl) rfl rfl (by simp) (by simp [ownOf,hx.toks,hy.toks]) rfl (fun n => ?_)
  simp only [zipT,Nat.zero_add]
  refine WC_seqR (fun N1 hN1 hD1 => ?_)
  simp only [sS,↓sT,if_true,if_false,Nat.reduceLT,Nat.reduceEqDiff,↓sO,↓WOps_g,sG,opV,loudV,cellsOf,strOp,evL,Nat.reduceAdd,beq_self_eq_true,bne_self_eq_false,Int.reduceBEq,Int.reduceBNe,hx.len,hy.len,tag_load,tag_neq,ti25,decide_true,decide_false]
  refine hN1 _ ?_; try clear hN1 hD1 N1
  refine WC_seqN (fun N2 hN2 hD2 => ?_)
  refine WC_seqR (fun N3 hN3 hD3 => ?_)
  simp only [sS,↓sT,if_true,if_false,Nat.reduceLT,Nat.reduceEqDiff,↓sO,↓WOps_g,sG,opV,loudV,cellsOf,strOp,evL,Nat.reduceAdd,beq_self_eq_true,bne_self_eq_false,Int.reduceBEq,Int.reduceBNe,ti38,hx.len,hy.len,tag_load,tag_neq,ti25,decide_true,decide_false]
  refine hN3 _ ?_; try clear hN3 hD3 N3
  refine WC_condE ?_
  simp only [sS,↓sT,if_true,if_false,Nat.reduceLT,Nat.reduceEqDiff,↓stepC_bool]
  refine ⟨fun hb4 => ?_,fun hb4 => ?_⟩
  · refine WC_seqR (fun N5 hN5 hD5 => ?_)
    simp only [sS,↓sT,if_true,if_false,Nat.reduceLT,Nat.reduceEqDiff,↓sO,↓WOps_g,sG,opV,loudV,cellsOf,strOp,evL,Nat.reduceAdd,beq_self_eq_true,bne_self_eq_false,Int.reduceBEq,Int.reduceBNe,hx.len,hy.len,tag_load,tag_neq,ti25,decide_true,decide_false]
    refine hN5 _ ?_; try clear hN5 hD5 N5
    refine WC_ret ?_; (try simp only [Exit.after,Exit.out]); refine Kend_ret (by simp only [resOf,resL,resV,mkS_get,slots_get,cellsOf,ti3,sS,↓sT,if_true,if_false,Nat.reduceLT,Nat.reduceEqDiff]; rfl) (by first | rfl | (simp only [ti3]; done) | (simp only [ti3,okV,ok1,okC,okP,List.all_cons,List.all_nil,Bool.and_true]; done)) ?_
    clear hN2 hD2 N2
    first
    | (rw [keep_bool,ne_of_at hp hq (by simpa only [Bool.not_eq_true',Bool.not_eq_eq_eq_not,Bool.not_true] using hb14)]; done)
    | (rw [keep_bool,beq_eq_false_iff_ne.2 (fun h => by subst h; simp at hb4)]; done)
    | (rw [ht,List.take_length,hlm,List.take_length] at htk; rw [keep_bool,beq_iff_eq.2 htk]; done)
  · refine WC_skip ?_
    refine hN2 _ ?_; try clear hN2 hD2 N2
    refine WC_seqN (fun N6 hN6 hD6 => ?_)
    refine WC_seqR (fun N7 hN7 hD7 => ?_)
    simp only [sS,↓sT,if_true,if_false,Nat.reduceLT,Nat.reduceEqDiff,↓sO,↓WOps_g,sG,opV,loudV,cellsOf,strOp,evL,Nat.reduceAdd,beq_self_eq_true,bne_self_eq_false,Int.reduceBEq,Int.reduceBNe,ti38,hx.len,hy.len,tag_load,tag_neq,ti25,decide_true,decide_false]
    refine hN7 _ ?_; try clear hN7 hD7 N7
    refine WC_block ?_
    have hlm : l.length = m.length := by simp at hb4; omega
    refine WC_loopG (σ := Nat) (fun t s => ∃ ps,s = ⟨mkS 26 ps, [], [],n⟩ ∧ Has ps [(0,x),(1,y),(12, .int .i64 l.length),(13, .int .i64 t)] ∧ t ≤ l.length ∧ l.take t = m.take t) (fun t => l.length - t) 0 ?_ (fun t s hI => ?_)
    · exact ⟨_,rfl,⟨rfl,rfl,rfl,rfl,trivial⟩,by omega,by simp⟩
    obtain ⟨ps,rfl,hps,hI,htk⟩ := hI
    refine WC_has hps ?_; clear hps ps
    refine WC_seqR (fun N8 hN8 hD8 => ?_)
    simp only [sS,↓sT,if_true,if_false,Nat.reduceLT,Nat.reduceEqDiff,↓sO,↓WOps_g,sG,opV,loudV,cellsOf,strOp,evL,Nat.reduceAdd,beq_self_eq_true,bne_self_eq_false,Int.reduceBEq,Int.reduceBNe,hx.len,hy.len,tag_load,tag_neq,ti25,decide_true,decide_false]
    refine hN8 _ ?_; try clear hN8 hD8 N8
    refine WC_seqN (fun N9 hN9 hD9 => ?_)
    refine WC_condE ?_
    simp only [sS,↓sT,if_true,if_false,Nat.reduceLT,Nat.reduceEqDiff,↓stepC_bool]
    refine ⟨fun hb10 => ?_,fun hb10 => ?_⟩
    · have ht : t < l.length := by have := of_decide_eq_true hb10; omega
      clear hb10
      obtain ⟨p,hp⟩ : ∃ p,l[t]? = some p := ⟨_,List.getElem?_eq_getElem ht⟩
      obtain ⟨q,hq⟩ : ∃ q,m[t]? = some q := ⟨_,List.getElem?_eq_getElem (by omega)⟩
      refine WC_skip ?_
      refine hN9 _ ?_; try clear hN9 hD9 N9
      refine WC_seqN (fun N11 hN11 hD11 => ?_)
      refine WC_block ?_
      refine WC_seqR (fun N12 hN12 hD12 => ?_)
      simp only [sS,↓sT,if_true,if_false,Nat.reduceLT,Nat.reduceEqDiff,↓sO,↓WOps_g,sG,opV,loudV,cellsOf,strOp,evL,Nat.reduceAdd,beq_self_eq_true,bne_self_eq_false,Int.reduceBEq,Int.reduceBNe,hx.len,hy.len,tag_load,tag_neq,ti25,hx.ia hp,hy.ia hq,wrapI (x := (t : Int) + 1) (by omega) (by omega),decide_true,decide_false]
      refine hN12 _ ?_; try clear hN12 hD12 N12
      refine WC_seqD mixed [] [0,0,0,0,0,0,0,0,0] (by decide +kernel) (fun N13 hN13 hD13 => ?_)
      simp only [sS,↓sT,if_true,if_false,Nat.reduceLT,Nat.reduceEqDiff,↓sD,↓D_g,memOk,lets0,lets1,List.not_mem_nil,not_false_eq_true,true_and,and_true,sG,opV,loudV,cellsOf,strOp,evL,Nat.reduceAdd,beq_self_eq_true,bne_self_eq_false,Int.reduceBEq,Int.reduceBNe,ti38,ti25,hx.len,hy.len,tag_load,tag_neq,ti25,hx.ia hp,hy.ia hq,wrapI (x := (t : Int) + 1) (by omega) (by omega),decide_true,decide_false]
      refine hN13 _ ?_; try clear hN13 hD13 N13
      refine WC_condE ?_
      simp only [sS,↓sT,if_true,if_false,Nat.reduceLT,Nat.reduceEqDiff,↓stepC_bool]
      refine ⟨fun hb14 => ?_,fun hb14 => ?_⟩
      · refine WC_seqR (fun N15 hN15 hD15 => ?_)
        simp only [sS,↓sT,if_true,if_false,Nat.reduceLT,Nat.reduceEqDiff,↓sO,↓WOps_g,sG,opV,loudV,cellsOf,strOp,evL,Nat.reduceAdd,beq_self_eq_true,bne_self_eq_false,Int.reduceBEq,Int.reduceBNe,hx.len,hy.len,tag_load,tag_neq,ti25,hx.ia hp,hy.ia hq,wrapI (x := (t : Int) + 1) (by omega) (by omega),decide_true,decide_false]
        refine hN15 _ ?_; try clear hN15 hD15 N15
        refine WC_ret ?_; (try simp only [Exit.after,Exit.out]); refine Kend_ret (by simp only [resOf,resL,resV,mkS_get,slots_get,cellsOf,ti3,sS,↓sT,if_true,if_false,Nat.reduceLT,Nat.reduceEqDiff]; rfl) (by first | rfl | (simp only [ti3]; done) | (simp only [ti3,okV,ok1,okC,okP,List.all_cons,List.all_nil,Bool.and_true]; done)) ?_
        clear hN11 hD11 N11 hN6 hD6 N6
        first
        | (rw [keep_bool,ne_of_at hp hq (by simpa only [Bool.not_eq_true',Bool.not_eq_eq_eq_not,Bool.not_true] using hb14)]; done)
        | (rw [keep_bool,beq_eq_false_iff_ne.2 (fun h => by subst h; simp at hb4)]; done)
        | (rw [ht,List.take_length,hlm,List.take_length] at htk; rw [keep_bool,beq_iff_eq.2 htk]; done)
      · refine WC_skip ?_
        refine hN11 _ ?_; try clear hN11 hD11 N11
        refine WC_regN (fun N16 hN16 => ?_)
        simp only [sS,↓sT,if_true,if_false,Nat.reduceLT,Nat.reduceEqDiff,↓sO,↓WOps_g,sG,opV,loudV,cellsOf,strOp,evL,Nat.reduceAdd,beq_self_eq_true,bne_self_eq_false,Int.reduceBEq,Int.reduceBNe,hx.len,hy.len,tag_load,tag_neq,ti25,hx.ia hp,hy.ia hq,wrapI (x := (t : Int) + 1) (by omega) (by omega),decide_true,decide_false]
        refine hN16 _ ?_; try clear hN16 N16
        have hpq : p = q := by
          obtain ⟨p1,p2⟩ := p
          obtain ⟨q1,q2⟩ := q
          simpa using hb14
        exact ⟨t + 1,⟨_,rfl,⟨rfl,rfl,rfl,rfl,trivial⟩,ht,take_eq hp hq htk hpq⟩,by omega⟩
    · have ht : t = l.length := by have := of_decide_eq_false hb10; omega
      clear hb10
      refine WC_exit ?_
      refine hN6 _ ?_; try clear hN6 hD6 N6
      refine WC_seqR (fun N17 hN17 hD17 => ?_)
      simp only [sS,↓sT,if_true,if_false,Nat.reduceLT,Nat.reduceEqDiff,↓sO,↓WOps_g,sG,opV,loudV,cellsOf,strOp,evL,Nat.reduceAdd,beq_self_eq_true,bne_self_eq_false,Int.reduceBEq,Int.reduceBNe,hx.len,hy.len,tag_load,tag_neq,ti25,decide_true,decide_false]
      refine hN17 _ ?_; try clear hN17 hD17 N17
      refine WC_ret ?_; (try simp only [Exit.after,Exit.out]); refine Kend_ret (by simp only [resOf,resL,resV,mkS_get,slots_get,cellsOf,ti3,sS,↓sT,if_true,if_false,Nat.reduceLT,Nat.reduceEqDiff]; rfl) (by first | rfl | (simp only [ti3]; done) | (simp only [ti3,okV,ok1,okC,okP,List.all_cons,List.all_nil,Bool.and_true]; done)) ?_
      clear hN9 hD9 N9
      first
      | (rw [keep_bool,ne_of_at hp hq (by simpa only [Bool.not_eq_true',Bool.not_eq_eq_eq_not,Bool.not_true] using hb14)]; done)
      | (rw [keep_bool,beq_eq_false_iff_ne.2 (fun h => by subst h; simp at hb4)]; done)
      | (rw [ht,List.take_length,hlm,List.take_length] at htk; rw [keep_bool,beq_iff_eq.2 htk]; done)
def sameO (a b : OpS) : Bool := (a.idR == b.idR && a.idN == b.idN) && ((a.scR == b.scR && a.scN == b.scN) && ((a.time == b.time) && ((a.cart == b.cart) && ((a.kind == b.kind) && ((a.item == b.item) && ((a.atS == b.atS && (a.atG == b.atG && a.atN == b.atN)) && ((a.delta == b.delta) && ((a.has == b.has) && ((a.text == b.text) && (a.dropsL == b.dropsL))))))))))
end Go.PV
