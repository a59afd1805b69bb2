/- punnetlaw26.PoolCatches: the walk. -/
import Derived.Test.YtpgfcfojojemjaaT38
import Derived.Test.YtpgfcfojojemjaaRows
import Derived.Test.YtpgfcfojojemjaaT36
import Derived.Test.YtpgfcfojojemjaaPWc
import Derived.SizedLaws
namespace Go.PV
open Go.Proofs
set_option linter.unusedVariables false
set_option linter.unusedSimpArgs false
set_option maxRecDepth 10000
set_option maxHeartbeats 4000000

theorem vec_bare1L (v : List Int) (n : Int) : [vecV v, .int .i64 n].map V.bare1 = [vecV v, .int .i64 n] := by
  have h : (vecV v).bare1 = vecV v := vec_bare v
  simp only [List.map_cons,List.map_nil,h]; rfl
section
variable {ops : Array Oper} {os : List Oper} {K : St → Prop} {s : St} {dst : Option Tmp} {ty : TypeId} {pos : String} {after : Array Edge}
/-- Since of a pool without tokens -/
theorem WOps_sinceB {f : Operand} {args : Array Operand} {ts : Array TypeId} {b : Nat} {Ls : List (List OpS)} {cs : List V} {v : List Int} {n : Int} (hP : PCt Ls cs) (h0 : cs.flatMap V.tokC = []) (hv : v.length = 6) (hd : OkLs Ls) (hl : ∀ l ∈ Ls, l.length ≤ 400)
    (hf : ev s f = some (.func (.func 38) [])) (hx : evL s args.toList = some [.ptr b 0,vecV v, .int .i64 n]) (hb : s.heap[b]? = some cs)
    (k : ∀ ow' n',(∀ q ∈ s.own,q ∈ ow') → WOps Try.prog ops os K (St.put ⟨s.slots,s.heap.set b cs,ow',n'⟩ dst (opsV (sinceL Ls v n)))) :
    WOps Try.prog ops (⟨dst, .call ⟨.value f,args,ts⟩,ty,pos,after,none⟩ :: os) K s := by
  refine WOps_callH (b := b) (o := 0) (ys := [vecV v, .int .i64 n]) (cs := cs) (by rw [vec_bare1L]; exact h__punnet_pool_Pool_Since Ls cs hP v hv n hd hl) hf hx hb (by intro y hy; simp only [List.mem_cons,List.not_mem_nil,or_false] at hy; rcases hy with rfl | rfl; exact vec_noP v; rfl) (fun c hc => by obtain ⟨l,_,hl⟩ := hP.mem hc; exact ⟨hl.facts.1,hl.facts.2.1⟩) (fun q hq => by rw [h0] at hq; cases hq) ?_
  rintro _ _ n' ⟨rfl,rfl⟩ hnn
  refine ⟨cs,rfl,hP.noP,(opsV_facts _).1,k _ n' fun q hq => ?_⟩
  rw [(opsV_facts _).2.1,List.nil_append,h0]
  exact List.mem_append_right _ (List.mem_filter.2 ⟨hq,by simp⟩)
end
theorem flat_mem {m : List OpS} {o : OpS} (h : o ∈ flatG m) : o ∈ m := by
  simp only [flatG,List.mem_append] at h
  rcases h with h | h | h | h | h | h <;> exact (List.mem_filter.1 h).1
theorem of_drops {m : List OpS} (hd : ∀ o ∈ m, o.dropsL.length ≤ 200) {o : OpS} (h : Of m o) : o.dropsL.length ≤ 200 := by
  obtain ⟨p,hp,rfl | rfl⟩ := h
  · exact hd _ hp
  · rw [own_dropsL]; exact hd p hp
theorem Pool.sub {Ls Q : List (List OpS)} {m : List OpS} {es : List V} {ow : List (Nat × Nat)} {n : Nat} (h : Pool Q es ow n) (hr : Rel Ls m) (hs : Sub Ls Q) (hm : m.length ≤ 60) : Pool Q es ow 60 :=
  ⟨h.p,h.a,h.o,h.d,by have := hs.tot_le hr.len; have := hr.tt; omega⟩
theorem Pool.ow {Q : List (List OpS)} {es : List V} {ow ow' : List (Nat × Nat)} {n : Nat} (h : Pool Q es ow n) (hs : ∀ q ∈ ow, q ∈ ow') : Pool Q es ow' n := ⟨h.p, h.a, fun q hq => hs q (h.o q hq), h.d, h.t⟩
theorem hav_len {Q : List (List OpS)} (h : Q.length = 6) : (haveL Q).length = 6 := by simp [haveL, h]
theorem c_punnet_punnetlaw26_PoolCatches (l : List OpS) (x : V) (hx : PS l x) (hl : l.length ≤ maxLen) (v : List Int) (hv : v.length = 6) (c : Int) (hc : 0 ≤ c ∧ c ≤ 255) : VC Try.prog 8 [x, vecV v, .int .u8 c] [] (fun r _ => r = .bool true) := by
  refine VC_enter (nt := 83) (rs := [.tmp 6]) (ow := []) (m := 0) Try.func8 rfl (by rfl) rfl rfl (by simp) (by simp only [ownOf,List.flatMap_cons,List.flatMap_nil,hx.toks,vec_toks,List.append_nil]; rfl) rfl (fun n => ?_)
  simp only [zipT,Nat.zero_add]
  have hyb := True.intro
  have hyn := True.intro
  have hve := True.intro
  have hsl := True.intro
  have hxl := True.intro
  have hi := True.intro
  have hj := True.intro
  have hwt := True.intro
  have hwi := True.intro
  have hwj := True.intro
  have hz8 : ((8 : Int) = 0) = False := by simp
  have hm8 : 0 ≤ c.tmod 8 ∧ c.tmod 8 < 8 := by rw [Int.tmod_eq_emod_of_nonneg hc.1]; omega
  have hw1 : IntKind.i64.wrap (c.tmod 8) = c.tmod 8 := wrapI (by omega) (by omega)
  have hw2 : IntKind.i64.wrap (1 + c.tmod 8) = 1 + c.tmod 8 := wrapI (by omega) (by omega)
  refine WC_seqR (fun N1 hN1 hD1 => ?_)
  simp only [sS,↓sT,if_true,if_false,Nat.reduceLT,Nat.reduceEqDiff,↓sO,↓WOps_g,sG,opV,loudV,cellsOf,strOp,evL,Nat.reduceAdd,beq_self_eq_true,bne_self_eq_false,Int.reduceBEq,Int.reduceBNe,hve,hsl,hxl,hi,hj,hwt,hwi,hwj,hw1,hw2,hz8,convV,vec_cells,all_ints,(vec_load hv),cat_at,cat_set,wr15,op_isC,op_full,op_len,op_cells,opCells,icell_int,icell_str,icell_bool,dropsW_isC,Bool.and_self,load15,load_int,tag_load2,tag_load,tag_fold,List.drop_zero,List.all_cons,List.all_nil,ti3,ti5,ti49,ti25,ti23,decide_true,decide_false]
  refine hN1 _ ?_; try clear hN1 hD1 N1
  refine WC_seqN (fun N2 hN2 hD2 => ?_)
  refine WC_seqR (fun N3 hN3 hD3 => ?_)
  refine WOps_callP x_awake26 (by simp only [ev_func]) (by simp only [evL,sS,↓sT,if_true,if_false,Nat.reduceLT,Nat.reduceEqDiff]; rfl) (by first | rfl | (simp only [List.map,vec_bare,tag_bare,hx.bare,op_bare,hyb]; done) | (simp only [List.map,vec_bare,tag_bare,hx.bare,op_bare,hyb]; exact rfl)) (by first | rfl | simp [vec_noP,tag_noP,hx.noP,noP_int,hyn]) (by first | rfl | simp [vec_noP,tag_noP,hx.noP,noP_int,hyn]) (by first | exact op_bare _ | rfl) ?_
  simp only [sS,↓sT,if_true,if_false,Nat.reduceLT,Nat.reduceEqDiff,↓sO,↓WOps_g,sG,opV,loudV,cellsOf,strOp,evL,Nat.reduceAdd,beq_self_eq_true,bne_self_eq_false,Int.reduceBEq,Int.reduceBNe,hve,hsl,hxl,hi,hj,hwt,hwi,hwj,hw1,hw2,hz8,convV,vec_cells,all_ints,(vec_load hv),cat_at,cat_set,wr15,op_isC,op_full,op_len,op_cells,opCells,icell_int,icell_str,icell_bool,dropsW_isC,Bool.and_self,load15,load_int,tag_load2,tag_load,tag_fold,List.drop_zero,List.all_cons,List.all_nil,ti3,ti5,ti49,ti25,ti23,decide_true,decide_false]
  refine hN3 _ ?_; try clear hN3 hD3 N3
  refine WC_condE ?_
  simp only [sS,↓sT,if_true,if_false,Nat.reduceLT,Nat.reduceEqDiff,↓stepC_bool]
  refine ⟨fun hb4 => ?_,fun hb4 => ?_⟩
  · refine WC_seqR (fun N5 hN5 hD5 => ?_)
    simp only [sS,↓sT,if_true,if_false,Nat.reduceLT,Nat.reduceEqDiff,↓sO,↓WOps_g,sG,opV,loudV,cellsOf,strOp,evL,Nat.reduceAdd,beq_self_eq_true,bne_self_eq_false,Int.reduceBEq,Int.reduceBNe,hve,hsl,hxl,hi,hj,hwt,hwi,hwj,hw1,hw2,hz8,convV,vec_cells,all_ints,(vec_load hv),cat_at,cat_set,wr15,op_isC,op_full,op_len,op_cells,opCells,icell_int,icell_str,icell_bool,dropsW_isC,Bool.and_self,load15,load_int,tag_load2,tag_load,tag_fold,List.drop_zero,List.all_cons,List.all_nil,ti3,ti5,ti49,ti25,ti23,hb4,decide_true,decide_false]
    refine hN5 _ ?_; try clear hN5 hD5 N5
    refine WC_ret ?_; (try simp only [Exit.after,Exit.out]); refine Kend_ret (by simp only [resOf,resL,resV,mkS_get,slots_get,cellsOf,load_str,load_bool,load_int,load_slice,ti3,sS,↓sT,if_true,if_false,Nat.reduceLT,Nat.reduceEqDiff]; rfl) (by first | rfl | (simp only [load_str,load_bool,load_int,load_slice,ti3]; done) | (simp only [load_str,load_bool,load_int,load_slice,ti3,okV,ok1,okC,okP,List.all_cons,List.all_nil,Bool.and_true]; done)) ?_
    clear hN2 hD2 N2
    first
    | rfl
    | (cases hb4; done)
  · refine WC_skip ?_
    refine hN2 _ ?_; try clear hN2 hD2 N2
    refine WC_seqN (fun N6 hN6 hD6 => ?_)
    refine WC_seqR (fun N7 hN7 hD7 => ?_)
    simp only [sS,↓sT,if_true,if_false,Nat.reduceLT,Nat.reduceEqDiff,↓sO,↓WOps_g,sG,opV,loudV,cellsOf,strOp,evL,Nat.reduceAdd,beq_self_eq_true,bne_self_eq_false,Int.reduceBEq,Int.reduceBNe,hve,hsl,hxl,hi,hj,hwt,hwi,hwj,hw1,hw2,hz8,convV,vec_cells,all_ints,(vec_load hv),cat_at,cat_set,wr15,op_isC,op_full,op_len,op_cells,opCells,icell_int,icell_str,icell_bool,dropsW_isC,Bool.and_self,load15,load_int,tag_load2,tag_load,tag_fold,List.drop_zero,List.all_cons,List.all_nil,ti3,ti5,ti49,ti25,ti23,hb4,decide_true,decide_false]
    refine WOps_callP (c_punnet_punnetref22_HeavyOps l x hx 60 hl) (by simp only [ev_func]) (by simp only [evL,sS,↓sT,if_true,if_false,Nat.reduceLT,Nat.reduceEqDiff]; rfl) (by first | rfl | (simp only [List.map,vec_bare,tag_bare,hx.bare,op_bare,hyb]; done) | (simp only [List.map,vec_bare,tag_bare,hx.bare,op_bare,hyb]; exact rfl)) (by first | rfl | simp [vec_noP,tag_noP,hx.noP,noP_int,hyn]) (by first | rfl | simp [vec_noP,tag_noP,hx.noP,noP_int,hyn]) (by first | exact op_bare _ | rfl) ?_
    simp only [sS,↓sT,if_true,if_false,Nat.reduceLT,Nat.reduceEqDiff,↓sO,↓WOps_g,sG,opV,loudV,cellsOf,strOp,evL,Nat.reduceAdd,beq_self_eq_true,bne_self_eq_false,Int.reduceBEq,Int.reduceBNe,hve,hsl,hxl,hi,hj,hwt,hwi,hwj,hw1,hw2,hz8,convV,vec_cells,all_ints,(vec_load hv),cat_at,cat_set,wr15,op_isC,op_full,op_len,op_cells,opCells,icell_int,icell_str,icell_bool,dropsW_isC,Bool.and_self,load15,load_int,tag_load2,tag_load,tag_fold,List.drop_zero,List.all_cons,List.all_nil,ti3,ti5,ti49,ti25,ti23,hb4,decide_true,decide_false]
    refine hN7 _ ?_; try clear hN7 hD7 N7
    refine WC_condE ?_
    simp only [sS,↓sT,if_true,if_false,Nat.reduceLT,Nat.reduceEqDiff,↓stepC_bool,hb4,Int.reduceBEq,Int.reduceBNe,beq_self_eq_true,bne_self_eq_false]
    refine ⟨fun hb8 => ?_,fun hb8 => ?_⟩
    · refine WC_seqR (fun N9 hN9 hD9 => ?_)
      simp only [sS,↓sT,if_true,if_false,Nat.reduceLT,Nat.reduceEqDiff,↓sO,↓WOps_g,sG,opV,loudV,cellsOf,strOp,evL,Nat.reduceAdd,beq_self_eq_true,bne_self_eq_false,Int.reduceBEq,Int.reduceBNe,hve,hsl,hxl,hi,hj,hwt,hwi,hwj,hw1,hw2,hz8,convV,vec_cells,all_ints,(vec_load hv),cat_at,cat_set,wr15,op_isC,op_full,op_len,op_cells,opCells,icell_int,icell_str,icell_bool,dropsW_isC,Bool.and_self,load15,load_int,tag_load2,tag_load,tag_fold,List.drop_zero,List.all_cons,List.all_nil,ti3,ti5,ti49,ti25,ti23,hb4,hb8,decide_true,decide_false]
      refine hN9 _ ?_; try clear hN9 hD9 N9
      refine WC_ret ?_; (try simp only [Exit.after,Exit.out]); refine Kend_ret (by simp only [resOf,resL,resV,mkS_get,slots_get,cellsOf,load_str,load_bool,load_int,load_slice,ti3,sS,↓sT,if_true,if_false,Nat.reduceLT,Nat.reduceEqDiff]; rfl) (by first | rfl | (simp only [load_str,load_bool,load_int,load_slice,ti3]; done) | (simp only [load_str,load_bool,load_int,load_slice,ti3,okV,ok1,okC,okP,List.all_cons,List.all_nil,Bool.and_true]; done)) ?_
      clear hN6 hD6 N6
      first
      | rfl
      | (cases hb4; done)
    · refine WC_skip ?_
      refine hN6 _ ?_; try clear hN6 hD6 N6
      refine WC_seqR (fun N10 hN10 hD10 => ?_)
      simp only [sS,↓sT,if_true,if_false,Nat.reduceLT,Nat.reduceEqDiff,↓sO,↓WOps_g,sG,opV,loudV,cellsOf,strOp,evL,Nat.reduceAdd,beq_self_eq_true,bne_self_eq_false,Int.reduceBEq,Int.reduceBNe,hve,hsl,hxl,hi,hj,hwt,hwi,hwj,hw1,hw2,hz8,convV,vec_cells,all_ints,(vec_load hv),cat_at,cat_set,wr15,op_isC,op_full,op_len,op_cells,opCells,icell_int,icell_str,icell_bool,dropsW_isC,Bool.and_self,load15,load_int,tag_load2,tag_load,tag_fold,List.drop_zero,List.all_cons,List.all_nil,ti3,ti5,ti49,ti25,ti23,hb4,hb8,decide_true,decide_false]
      obtain ⟨hl60,hld⟩ := heavy_ok hb8
      refine WOps_fill hx (by omega) hld (by simp only [ev_func]) (by first | (simp only [evL,sS,↓sT,if_true,if_false,Nat.reduceLT,Nat.reduceEqDiff]; done) | (simp only [evL,sS,↓sT,if_true,if_false,Nat.reduceLT,Nat.reduceEqDiff]; rfl)) (fun Ls m y ds n' hF hnn => ?_)
      simp only [sS,↓sT,if_true,if_false,Nat.reduceLT,Nat.reduceEqDiff,↓sO,↓WOps_g,sG,opV,loudV,cellsOf,strOp,evL,Nat.reduceAdd,beq_self_eq_true,bne_self_eq_false,Int.reduceBEq,Int.reduceBNe,hve,hsl,hxl,hi,hj,hwt,hwi,hwj,hw1,hw2,hz8,convV,vec_cells,all_ints,(vec_load hv),cat_at,cat_set,wr15,op_isC,op_full,op_len,op_cells,opCells,icell_int,icell_str,icell_bool,dropsW_isC,Bool.and_self,load15,load_int,tag_load2,tag_load,tag_fold,List.drop_zero,List.all_cons,List.all_nil,ti3,ti5,ti49,ti25,ti23,hb4,hb8,decide_true,decide_false]
      refine hN10 _ ?_; try clear hN10 hD10 N10
      refine WC_seqN (fun N11 hN11 hD11 => ?_)
      refine WC_seqR (fun N12 hN12 hD12 => ?_)
      simp only [sS,↓sT,if_true,if_false,Nat.reduceLT,Nat.reduceEqDiff,↓sO,↓WOps_g,sG,opV,loudV,cellsOf,strOp,evL,Nat.reduceAdd,beq_self_eq_true,bne_self_eq_false,Int.reduceBEq,Int.reduceBNe,hve,hsl,hxl,hi,hj,hwt,hwi,hwj,hw1,hw2,hz8,convV,vec_cells,all_ints,(vec_load hv),cat_at,cat_set,wr15,op_isC,op_full,op_len,op_cells,opCells,icell_int,icell_str,icell_bool,dropsW_isC,Bool.and_self,load15,load_int,tag_load2,tag_load,tag_fold,List.drop_zero,List.all_cons,List.all_nil,ti3,ti5,ti49,ti25,ti23,hb4,hb8,decide_true,decide_false]
      refine hN12 _ ?_; try clear hN12 hD12 N12
      refine WC_condE ?_
      simp only [sS,↓sT,if_true,if_false,Nat.reduceLT,Nat.reduceEqDiff,↓stepC_bool,hb4,hb8,Int.reduceBEq,Int.reduceBNe,beq_self_eq_true,bne_self_eq_false]
      refine ⟨fun hb13 => ?_,fun hb13 => ?_⟩
      · exact absurd hb13 (by simp)
      · refine WC_skip ?_
        refine hN11 _ ?_; try clear hN11 hD11 N11
        refine WC_seqR (fun N14 hN14 hD14 => ?_)
        refine WOps_callN c_new (by simp only [ev_func]) (by first | (simp only [evL,sS,↓sT,if_true,if_false,Nat.reduceLT,Nat.reduceEqDiff]; done) | (simp only [evL,sS,↓sT,if_true,if_false,Nat.reduceLT,Nat.reduceEqDiff]; rfl)) (fun c hc => by rw [newC_nil hc]; rfl) new_toks ?_
        intro n2 hnn2
        have hyb := hF.y.bare
        have hyn := hF.y.noP
        have hR := hF.c.rel
        have hm60 := hF.n
        have hsm : ∀ o ∈ sortL m,o ∈ m := fun o ho => by rw [hF.c.sort] at ho; exact flat_mem ho
        have hPX : PX (sortL m) (.slice 15 ((sortL m).map opW) (m.length == 0) none) := ⟨_,_,rfl⟩
        have hsl := hPX.len
        have hsn := sort_len m
        simp only [sS,↓sT,if_true,if_false,Nat.reduceLT,Nat.reduceEqDiff,↓sO,↓WOps_g,sG,opV,loudV,cellsOf,strOp,evL,Nat.reduceAdd,beq_self_eq_true,bne_self_eq_false,Int.reduceBEq,Int.reduceBNe,hve,hsl,hxl,hi,hj,hwt,hwi,hwj,hw1,hw2,hz8,convV,vec_cells,all_ints,(vec_load hv),cat_at,cat_set,wr15,op_isC,op_full,op_len,op_cells,opCells,icell_int,icell_str,icell_bool,dropsW_isC,Bool.and_self,load15,load_int,tag_load2,tag_load,tag_fold,List.drop_zero,List.all_cons,List.all_nil,ti3,ti5,ti49,ti25,ti23,hb4,hb8,hb13,decide_true,decide_false]
        refine hN14 _ ?_; try clear hN14 hD14 N14
        refine WC_seqN (fun N15 hN15 hD15 => ?_)
        refine WC_seqR (fun N16 hN16 hD16 => ?_)
        simp only [sS,↓sT,if_true,if_false,Nat.reduceLT,Nat.reduceEqDiff,↓sO,↓WOps_g,sG,opV,loudV,cellsOf,strOp,evL,Nat.reduceAdd,beq_self_eq_true,bne_self_eq_false,Int.reduceBEq,Int.reduceBNe,ti52,hve,hsl,hxl,hi,hj,hwt,hwi,hwj,hw1,hw2,hz8,convV,vec_cells,all_ints,(vec_load hv),cat_at,cat_set,wr15,op_isC,op_full,op_len,op_cells,opCells,icell_int,icell_str,icell_bool,dropsW_isC,Bool.and_self,load15,load_int,tag_load2,tag_load,tag_fold,List.drop_zero,List.all_cons,List.all_nil,ti3,ti5,ti49,ti25,ti23,hb4,hb8,hb13,decide_true,decide_false]
        refine WOps_callP (c_punnet_punnetref26_Sorted m y hF.y (by have := hF.n; omega)) (by simp only [ev_func]) (by simp only [evL,sS,↓sT,if_true,if_false,Nat.reduceLT,Nat.reduceEqDiff]; rfl) (by first | rfl | (simp only [List.map,vec_bare,tag_bare,hx.bare,op_bare,hyb]; done) | (simp only [List.map,vec_bare,tag_bare,hx.bare,op_bare,hyb]; exact rfl)) (by first | rfl | simp [vec_noP,tag_noP,hx.noP,noP_int,hyn]) (by first | rfl | simp [vec_noP,tag_noP,hx.noP,noP_int,hyn]) (by first | exact op_bare _ | rfl) ?_
        simp only [sS,↓sT,if_true,if_false,Nat.reduceLT,Nat.reduceEqDiff,↓sO,↓WOps_g,sG,opV,loudV,cellsOf,strOp,evL,Nat.reduceAdd,beq_self_eq_true,bne_self_eq_false,Int.reduceBEq,Int.reduceBNe,ti52,hve,hsl,hxl,hi,hj,hwt,hwi,hwj,hw1,hw2,hz8,convV,vec_cells,all_ints,(vec_load hv),cat_at,cat_set,wr15,op_isC,op_full,op_len,op_cells,opCells,icell_int,icell_str,icell_bool,dropsW_isC,Bool.and_self,load15,load_int,tag_load2,tag_load,tag_fold,List.drop_zero,List.all_cons,List.all_nil,ti3,ti5,ti49,ti25,ti23,hb4,hb8,hb13,decide_true,decide_false]
        refine hN16 _ ?_; try clear hN16 hD16 N16
        refine WC_block ?_
        refine WC_loopG (σ := Nat) (fun t s => ∃ ps Q es hs ow nx,s = ⟨mkS 83 ps,v.map (V.int .i64) :: ds :: es :: hs,ow,nx⟩ ∧ Has ps [(2, .int .u8 c),(4, .ptr 0 0),(7, .ptr 1 0),(10, .ptr 2 0),(31, .slice 15 ((sortL m).map opW) (m.length == 0) none),(32, .int .i64 (sortL m).length),(33, .int .i64 t)] ∧ t ≤ (sortL m).length ∧ Sub Ls Q ∧ Pool Q es ow 60) (fun t => (sortL m).length - t) 0 ?_ (fun t s hI => ?_)
        · exact ⟨_,emptyL,newC, [],_,_,rfl,⟨rfl,rfl,rfl,rfl,rfl,rfl,rfl,trivial⟩,Nat.zero_le _,sub_empty Ls,(Pool.new _).sub hR (sub_empty Ls) hm60⟩
        obtain ⟨ps,Q,es,hs,ow,nx,rfl,hps,ht,hS,hP⟩ := hI
        refine WC_has hps ?_; clear hps ps
        refine WC_seqR (fun N17 hN17 hD17 => ?_)
        simp only [sS,↓sT,if_true,if_false,Nat.reduceLT,Nat.reduceEqDiff,↓sO,↓WOps_g,sG,opV,loudV,cellsOf,strOp,evL,Nat.reduceAdd,beq_self_eq_true,bne_self_eq_false,Int.reduceBEq,Int.reduceBNe,hve,hsl,hxl,hi,hj,hwt,hwi,hwj,hw1,hw2,hz8,convV,vec_cells,all_ints,(vec_load hv),cat_at,cat_set,wr15,op_isC,op_full,op_len,op_cells,opCells,icell_int,icell_str,icell_bool,dropsW_isC,Bool.and_self,load15,load_int,tag_load2,tag_load,tag_fold,List.drop_zero,List.all_cons,List.all_nil,ti3,ti5,ti49,ti25,ti23,hb4,hb8,hb13,decide_true,decide_false]
        refine hN17 _ ?_; try clear hN17 hD17 N17
        refine WC_seqN (fun N18 hN18 hD18 => ?_)
        refine WC_condE ?_
        simp only [sS,↓sT,if_true,if_false,Nat.reduceLT,Nat.reduceEqDiff,↓stepC_bool,hb4,hb8,hb13,Int.reduceBEq,Int.reduceBNe,beq_self_eq_true,bne_self_eq_false]
        refine ⟨fun hb19 => ?_,fun hb19 => ?_⟩
        · have ht2 : t < (sortL m).length := by have := of_decide_eq_true hb19; omega
          obtain ⟨o,ho⟩ : ∃ o,(sortL m)[t]? = some o := ⟨_,List.getElem?_eq_getElem ht2⟩
          have hi := hPX.ia ho
          have hom : Of m o := ⟨o,hsm o (List.mem_of_getElem? ho), .inl rfl⟩
          have hwt : IntKind.i64.wrap ((t : Int) + 1) = (t : Int) + 1 := wrapI (by omega) (by omega)
          refine WC_skip ?_
          refine hN18 _ ?_; try clear hN18 hD18 N18
          refine WC_seqN (fun N20 hN20 hD20 => ?_)
          refine WC_block ?_
          refine WC_seqR (fun N21 hN21 hD21 => ?_)
          simp only [sS,↓sT,if_true,if_false,Nat.reduceLT,Nat.reduceEqDiff,↓sO,↓WOps_g,sG,opV,loudV,cellsOf,strOp,evL,Nat.reduceAdd,beq_self_eq_true,bne_self_eq_false,Int.reduceBEq,Int.reduceBNe,ti52,ti49,hve,hsl,hxl,hi,hj,hwt,hwi,hwj,hw1,hw2,hz8,convV,vec_cells,all_ints,(vec_load hv),cat_at,cat_set,wr15,op_isC,op_full,op_len,op_cells,opCells,icell_int,icell_str,icell_bool,dropsW_isC,Bool.and_self,load15,load_int,tag_load2,tag_load,tag_fold,List.drop_zero,List.all_cons,List.all_nil,ti3,ti5,ti49,ti25,ti23,hb4,hb8,hb13,hb19,decide_true,decide_false]
          refine hN21 _ ?_; try clear hN21 hD21 N21
          refine WC_seqR (fun N22 hN22 hD22 => ?_)
          simp only [sS,↓sT,if_true,if_false,Nat.reduceLT,Nat.reduceEqDiff,↓sO,↓WOps_g,sG,opV,loudV,cellsOf,strOp,evL,Nat.reduceAdd,beq_self_eq_true,bne_self_eq_false,Int.reduceBEq,Int.reduceBNe,ti23,fa49_0,fr49_0,fv49_0,ti25,hve,hsl,hxl,hi,hj,hwt,hwi,hwj,hw1,hw2,hz8,convV,vec_cells,all_ints,(vec_load hv),cat_at,cat_set,wr15,op_isC,op_full,op_len,op_cells,opCells,icell_int,icell_str,icell_bool,dropsW_isC,Bool.and_self,load15,load_int,tag_load2,tag_load,tag_fold,List.drop_zero,List.all_cons,List.all_nil,ti3,ti5,ti49,ti25,ti23,hb4,hb8,hb13,hb19,decide_true,decide_false]
          refine WOps_callP (c_punnet_punnetref25_Has v hv o.idR o.idN) (by simp only [ev_func]) (by simp only [evL,sS,↓sT,if_true,if_false,Nat.reduceLT,Nat.reduceEqDiff]; rfl) (by first | rfl | (simp only [List.map,vec_bare,tag_bare,hx.bare,op_bare,hyb]; done) | (simp only [List.map,vec_bare,tag_bare,hx.bare,op_bare,hyb]; exact rfl)) (by first | rfl | simp [vec_noP,tag_noP,hx.noP,noP_int,hyn]) (by first | rfl | simp [vec_noP,tag_noP,hx.noP,noP_int,hyn]) (by first | exact op_bare _ | rfl) ?_
          simp only [sS,↓sT,if_true,if_false,Nat.reduceLT,Nat.reduceEqDiff,↓sO,↓WOps_g,sG,opV,loudV,cellsOf,strOp,evL,Nat.reduceAdd,beq_self_eq_true,bne_self_eq_false,Int.reduceBEq,Int.reduceBNe,ti23,fa49_0,fr49_0,fv49_0,ti25,hve,hsl,hxl,hi,hj,hwt,hwi,hwj,hw1,hw2,hz8,convV,vec_cells,all_ints,(vec_load hv),cat_at,cat_set,wr15,op_isC,op_full,op_len,op_cells,opCells,icell_int,icell_str,icell_bool,dropsW_isC,Bool.and_self,load15,load_int,tag_load2,tag_load,tag_fold,List.drop_zero,List.all_cons,List.all_nil,ti3,ti5,ti49,ti25,ti23,hb4,hb8,hb13,hb19,decide_true,decide_false]
          refine hN22 _ ?_; try clear hN22 hD22 N22
          refine WC_condE ?_
          simp only [sS,↓sT,if_true,if_false,Nat.reduceLT,Nat.reduceEqDiff,↓stepC_bool,hb4,hb8,hb13,hb19,Int.reduceBEq,Int.reduceBNe,beq_self_eq_true,bne_self_eq_false]
          refine ⟨fun hb23 => ?_,fun hb23 => ?_⟩
          · refine WC_regN (fun N24 hN24 => ?_)
            simp only [sS,↓sT,if_true,if_false,Nat.reduceLT,Nat.reduceEqDiff,↓sO,↓WOps_g,sG,opV,loudV,cellsOf,strOp,evL,Nat.reduceAdd,beq_self_eq_true,bne_self_eq_false,Int.reduceBEq,Int.reduceBNe,ti49,hve,hsl,hxl,hi,hj,hwt,hwi,hwj,hw1,hw2,hz8,convV,vec_cells,all_ints,(vec_load hv),cat_at,cat_set,wr15,op_isC,op_full,op_len,op_cells,opCells,icell_int,icell_str,icell_bool,dropsW_isC,Bool.and_self,load15,load_int,tag_load2,tag_load,tag_fold,List.drop_zero,List.all_cons,List.all_nil,ti3,ti5,ti49,ti25,ti23,hb4,hb8,hb13,hb19,hb23,decide_true,decide_false]
            refine WOps_put (b := 2) (o := o) hP (by omega) (of_drops hF.e hom) (by simp only [ev_func]) (by first | (simp only [evL,sS,↓sT,if_true,if_false,Nat.reduceLT,Nat.reduceEqDiff]; done) | (simp only [evL,sS,↓sT,if_true,if_false,Nat.reduceLT,Nat.reduceEqDiff]; rfl)) rfl (fun es' ow' n' hP' => ?_)
            have hS' := hS.put hR (by have := hP.t; omega) hom
            replace hP' := hP'.sub hR hS' hm60
            generalize (putS Q o).1 = c1
            simp only [sS,↓sT,if_true,if_false,Nat.reduceLT,Nat.reduceEqDiff,↓sO,↓WOps_g,sG,opV,loudV,cellsOf,strOp,evL,Nat.reduceAdd,beq_self_eq_true,bne_self_eq_false,Int.reduceBEq,Int.reduceBNe,ti49,hve,hsl,hxl,hi,hj,hwt,hwi,hwj,hw1,hw2,hz8,convV,vec_cells,all_ints,(vec_load hv),cat_at,cat_set,wr15,op_isC,op_full,op_len,op_cells,opCells,icell_int,icell_str,icell_bool,dropsW_isC,Bool.and_self,load15,load_int,tag_load2,tag_load,tag_fold,List.drop_zero,List.all_cons,List.all_nil,ti3,ti5,ti49,ti25,ti23,hb4,hb8,hb13,hb19,hb23,decide_true,decide_false]
            refine hN24 _ ?_; try clear hN24 N24
            refine hN20 _ ?_; try clear hN20 hD20 N20
            refine WC_regN (fun N25 hN25 => ?_)
            simp only [sS,↓sT,if_true,if_false,Nat.reduceLT,Nat.reduceEqDiff,↓sO,↓WOps_g,sG,opV,loudV,cellsOf,strOp,evL,Nat.reduceAdd,beq_self_eq_true,bne_self_eq_false,Int.reduceBEq,Int.reduceBNe,hve,hsl,hxl,hi,hj,hwt,hwi,hwj,hw1,hw2,hz8,convV,vec_cells,all_ints,(vec_load hv),cat_at,cat_set,wr15,op_isC,op_full,op_len,op_cells,opCells,icell_int,icell_str,icell_bool,dropsW_isC,Bool.and_self,load15,load_int,tag_load2,tag_load,tag_fold,List.drop_zero,List.all_cons,List.all_nil,ti3,ti5,ti49,ti25,ti23,hb4,hb8,hb13,hb19,hb23,decide_true,decide_false]
            refine hN25 _ ?_; try clear hN25 N25
            first
            | exact ⟨t + 1,⟨_,putL Q o,es',_,ow',_,rfl,⟨rfl,rfl,rfl,rfl,rfl,rfl,rfl,trivial⟩,ht2,hS',hP'⟩,by omega⟩
            | exact ⟨t + 1,⟨_,Q,es,_,ow,_,rfl,⟨rfl,rfl,rfl,rfl,rfl,rfl,rfl,trivial⟩,ht2,hS,hP⟩,by omega⟩
          · refine WC_skip ?_
            refine hN20 _ ?_; try clear hN20 hD20 N20
            refine WC_regN (fun N26 hN26 => ?_)
            simp only [sS,↓sT,if_true,if_false,Nat.reduceLT,Nat.reduceEqDiff,↓sO,↓WOps_g,sG,opV,loudV,cellsOf,strOp,evL,Nat.reduceAdd,beq_self_eq_true,bne_self_eq_false,Int.reduceBEq,Int.reduceBNe,hve,hsl,hxl,hi,hj,hwt,hwi,hwj,hw1,hw2,hz8,convV,vec_cells,all_ints,(vec_load hv),cat_at,cat_set,wr15,op_isC,op_full,op_len,op_cells,opCells,icell_int,icell_str,icell_bool,dropsW_isC,Bool.and_self,load15,load_int,tag_load2,tag_load,tag_fold,List.drop_zero,List.all_cons,List.all_nil,ti3,ti5,ti49,ti25,ti23,hb4,hb8,hb13,hb19,hb23,decide_true,decide_false]
            refine hN26 _ ?_; try clear hN26 N26
            first
            | exact ⟨t + 1,⟨_,putL Q o,es',_,ow',_,rfl,⟨rfl,rfl,rfl,rfl,rfl,rfl,rfl,trivial⟩,ht2,hS',hP'⟩,by omega⟩
            | exact ⟨t + 1,⟨_,Q,es,_,ow,_,rfl,⟨rfl,rfl,rfl,rfl,rfl,rfl,rfl,trivial⟩,ht2,hS,hP⟩,by omega⟩
        · refine WC_exit ?_
          refine hN15 _ ?_; try clear hN15 hD15 N15
          refine WC_seqR (fun N27 hN27 hD27 => ?_)
          simp only [sS,↓sT,if_true,if_false,Nat.reduceLT,Nat.reduceEqDiff,↓sO,↓WOps_g,sG,opV,loudV,cellsOf,strOp,evL,Nat.reduceAdd,beq_self_eq_true,bne_self_eq_false,Int.reduceBEq,Int.reduceBNe,ti5,ti3,hve,hsl,hxl,hi,hj,hwt,hwi,hwj,hw1,hw2,hz8,convV,vec_cells,all_ints,(vec_load hv),cat_at,cat_set,wr15,op_isC,op_full,op_len,op_cells,opCells,icell_int,icell_str,icell_bool,dropsW_isC,Bool.and_self,load15,load_int,tag_load2,tag_load,tag_fold,List.drop_zero,List.all_cons,List.all_nil,ti3,ti5,ti49,ti25,ti23,hb4,hb8,hb13,hb19,decide_true,decide_false]
          refine hN27 _ ?_; try clear hN27 hD27 N27
          refine WC_seqN (fun N28 hN28 hD28 => ?_)
          refine WC_seqR (fun N29 hN29 hD29 => ?_)
          simp only [sS,↓sT,if_true,if_false,Nat.reduceLT,Nat.reduceEqDiff,↓sO,↓WOps_g,sG,opV,loudV,cellsOf,strOp,evL,Nat.reduceAdd,beq_self_eq_true,bne_self_eq_false,Int.reduceBEq,Int.reduceBNe,hve,hsl,hxl,hi,hj,hwt,hwi,hwj,hw1,hw2,hz8,convV,vec_cells,all_ints,(vec_load hv),cat_at,cat_set,wr15,op_isC,op_full,op_len,op_cells,opCells,icell_int,icell_str,icell_bool,dropsW_isC,Bool.and_self,load15,load_int,tag_load2,tag_load,tag_fold,List.drop_zero,List.all_cons,List.all_nil,ti3,ti5,ti49,ti25,ti23,hb4,hb8,hb13,hb19,decide_true,decide_false]
          refine hN29 _ ?_; try clear hN29 hD29 N29
          refine WC_block ?_
          clear hsl hsn hPX
          refine WC_loopG (σ := Nat) (fun i s => ∃ ps Q es ow nx,s = ⟨mkS 83 ps,v.map (V.int .i64) :: ds :: es :: hs,ow,nx⟩ ∧ Has ps [(7, .ptr 1 0),(10, .ptr 2 0),(13, .int .i64 (1 + c.tmod 8)),(14, .int .i64 i)] ∧ i ≤ 61 ∧ Sub Ls Q ∧ Pool Q es ow 60 ∧ (partL Ls (haveL Q) 6).length ≤ 60 - i) (fun i => 61 - i) 0 ?_ (fun i s hI => ?_)
          · exact ⟨_,Q,es,ow,_,rfl,⟨rfl,rfl,rfl,rfl,trivial⟩,Nat.zero_le _,hS,hP,Nat.le_trans (part_le hR _) hm60⟩
          clear hS hP
          obtain ⟨ps,Q,es,ow,nx,rfl,hps,hi6,hS,hP,hX⟩ := hI
          refine WC_has hps ?_; clear hps ps
          refine WC_seqN (fun N30 hN30 hD30 => ?_)
          refine WC_seqR (fun N31 hN31 hD31 => ?_)
          simp only [sS,↓sT,if_true,if_false,Nat.reduceLT,Nat.reduceEqDiff,↓sO,↓WOps_g,sG,opV,loudV,cellsOf,strOp,evL,Nat.reduceAdd,beq_self_eq_true,bne_self_eq_false,Int.reduceBEq,Int.reduceBNe,hve,hsl,hxl,hi,hj,hwt,hwi,hwj,hw1,hw2,hz8,convV,vec_cells,all_ints,(vec_load hv),cat_at,cat_set,wr15,op_isC,op_full,op_len,op_cells,opCells,icell_int,icell_str,icell_bool,dropsW_isC,Bool.and_self,load15,load_int,tag_load2,tag_load,tag_fold,List.drop_zero,List.all_cons,List.all_nil,ti3,ti5,ti49,ti25,ti23,hb4,hb8,hb13,hb19,decide_true,decide_false]
          refine hN31 _ ?_; try clear hN31 hD31 N31
          refine WC_condE ?_
          simp only [sS,↓sT,if_true,if_false,Nat.reduceLT,Nat.reduceEqDiff,↓stepC_bool,hb4,hb8,hb13,hb19,Int.reduceBEq,Int.reduceBNe,beq_self_eq_true,bne_self_eq_false]
          refine ⟨fun hb32 => ?_,fun hb32 => ?_⟩
          · have hi7 : i < 61 := by have := of_decide_eq_true hb32; omega
            have hwi : IntKind.i64.wrap ((i : Int) + 1) = (i : Int) + 1 := wrapI (by omega) (by omega)
            refine WC_skip ?_
            refine hN30 _ ?_; try clear hN30 hD30 N30
            refine WC_seqN (fun N33 hN33 hD33 => ?_)
            refine WC_block ?_
            refine WC_seqR (fun N34 hN34 hD34 => ?_)
            simp only [sS,↓sT,if_true,if_false,Nat.reduceLT,Nat.reduceEqDiff,↓sO,↓WOps_g,sG,opV,loudV,cellsOf,strOp,evL,Nat.reduceAdd,beq_self_eq_true,bne_self_eq_false,Int.reduceBEq,Int.reduceBNe,hve,hsl,hxl,hi,hj,hwt,hwi,hwj,hw1,hw2,hz8,convV,vec_cells,all_ints,(vec_load hv),cat_at,cat_set,wr15,op_isC,op_full,op_len,op_cells,opCells,icell_int,icell_str,icell_bool,dropsW_isC,Bool.and_self,load15,load_int,tag_load2,tag_load,tag_fold,List.drop_zero,List.all_cons,List.all_nil,ti3,ti5,ti49,ti25,ti23,hb4,hb8,hb13,hb19,hb32,decide_true,decide_false]
            refine WOps_callL (c_have hP.p.bare) (by simp only [ev_func]) (by first | (simp only [evL,sS,↓sT,if_true,if_false,Nat.reduceLT,Nat.reduceEqDiff]; done) | (simp only [evL,sS,↓sT,if_true,if_false,Nat.reduceLT,Nat.reduceEqDiff]; rfl)) (hP.p.lentAt (b := 2) rfl) (vec_pl _) ?_
            simp only [sS,↓sT,if_true,if_false,Nat.reduceLT,Nat.reduceEqDiff,↓sO,↓WOps_g,sG,opV,loudV,cellsOf,strOp,evL,Nat.reduceAdd,beq_self_eq_true,bne_self_eq_false,Int.reduceBEq,Int.reduceBNe,hve,hsl,hxl,hi,hj,hwt,hwi,hwj,hw1,hw2,hz8,convV,vec_cells,all_ints,(vec_load hv),cat_at,cat_set,wr15,op_isC,op_full,op_len,op_cells,opCells,icell_int,icell_str,icell_bool,dropsW_isC,Bool.and_self,load15,load_int,tag_load2,tag_load,tag_fold,List.drop_zero,List.all_cons,List.all_nil,ti3,ti5,ti49,ti25,ti23,hb4,hb8,hb13,hb19,hb32,decide_true,decide_false]
            refine WOps_sinceB (b := 1) (cs := ds) hF.p hF.t (hav_len hS.len) hF.d (fun l hl => by have := len_tot hl; have := hR.tt; omega) (by simp only [ev_func]) (by first | (simp only [evL,sS,↓sT,if_true,if_false,Nat.reduceLT,Nat.reduceEqDiff]; done) | (simp only [evL,sS,↓sT,if_true,if_false,Nat.reduceLT,Nat.reduceEqDiff]; rfl)) rfl (fun ow2 n3 hsub => ?_)
            replace hP := hP.ow hsub
            clear hsub
            simp only [sS,↓sT,if_true,if_false,Nat.reduceLT,Nat.reduceEqDiff,↓sO,↓WOps_g,sG,opV,loudV,cellsOf,strOp,evL,Nat.reduceAdd,beq_self_eq_true,bne_self_eq_false,Int.reduceBEq,Int.reduceBNe,hve,hsl,hxl,hi,hj,hwt,hwi,hwj,hw1,hw2,hz8,convV,vec_cells,all_ints,(vec_load hv),cat_at,cat_set,wr15,op_isC,op_full,op_len,op_cells,opCells,icell_int,icell_str,icell_bool,dropsW_isC,Bool.and_self,load15,load_int,tag_load2,tag_load,tag_fold,List.drop_zero,List.all_cons,List.all_nil,ti3,ti5,ti49,ti25,ti23,hb4,hb8,hb13,hb19,hb32,decide_true,decide_false]
            refine hN34 _ ?_; try clear hN34 hD34 N34
            refine WC_seqR (fun N35 hN35 hD35 => ?_)
            simp only [sS,↓sT,if_true,if_false,Nat.reduceLT,Nat.reduceEqDiff,↓sO,↓WOps_g,sG,opV,loudV,cellsOf,strOp,evL,Nat.reduceAdd,beq_self_eq_true,bne_self_eq_false,Int.reduceBEq,Int.reduceBNe,hve,hsl,hxl,hi,hj,hwt,hwi,hwj,hw1,hw2,hz8,convV,vec_cells,all_ints,(vec_load hv),cat_at,cat_set,wr15,op_isC,op_full,op_len,op_cells,opCells,icell_int,icell_str,icell_bool,dropsW_isC,Bool.and_self,load15,load_int,tag_load2,tag_load,tag_fold,List.drop_zero,List.all_cons,List.all_nil,ti3,ti5,ti49,ti25,ti23,hb4,hb8,hb13,hb19,hb32,decide_true,decide_false]
            refine hN35 _ ?_; try clear hN35 hD35 N35
            refine WC_block ?_
            obtain ⟨X,hXe⟩ : ∃ X,sinceL Ls (haveL Q) (1 + c.tmod 8) = X := ⟨_,rfl⟩
            have hXt : X = (partL Ls (haveL Q) 6).take (1 + c.tmod 8).toNat := by rw [← hXe,sinceL]
            rw [hXe]
            have hXl : X.length = min (1 + c.tmod 8).toNat (partL Ls (haveL Q) 6).length := by rw [hXt,List.length_take]
            have hXS := opsV_PS X
            have hxl := hXS.len
            refine WC_loopG (σ := Nat) (fun j s => ∃ ps R es ow nx,s = ⟨mkS 83 ps,v.map (V.int .i64) :: ds :: es :: hs,ow,nx⟩ ∧ Has ps [(7, .ptr 1 0),(10, .ptr 2 0),(13, .int .i64 (1 + c.tmod 8)),(14, .int .i64 i),(15,opsV X),(16, .int .i64 j)] ∧ j ≤ X.length ∧ Sub Ls R ∧ Pool R es ow 60 ∧ partL Ls (haveL R) 6 = (partL Ls (haveL Q) 6).drop j) (fun j => X.length - j) 0 ?_ (fun j s hI => ?_)
            · exact ⟨_,Q,es,_,_,rfl,⟨rfl,rfl,rfl,rfl,rfl,rfl,trivial⟩,Nat.zero_le _,hS,hP,rfl⟩
            obtain ⟨ps,R,es,ow,nx,rfl,hps,hjX,hS,hP,hRX⟩ := hI
            refine WC_has hps ?_; clear hps ps
            refine WC_seqN (fun N36 hN36 hD36 => ?_)
            refine WC_seqR (fun N37 hN37 hD37 => ?_)
            simp only [sS,↓sT,if_true,if_false,Nat.reduceLT,Nat.reduceEqDiff,↓sO,↓WOps_g,sG,opV,loudV,cellsOf,strOp,evL,Nat.reduceAdd,beq_self_eq_true,bne_self_eq_false,Int.reduceBEq,Int.reduceBNe,ti52,hve,hsl,hxl,hi,hj,hwt,hwi,hwj,hw1,hw2,hz8,convV,vec_cells,all_ints,(vec_load hv),cat_at,cat_set,wr15,op_isC,op_full,op_len,op_cells,opCells,icell_int,icell_str,icell_bool,dropsW_isC,Bool.and_self,load15,load_int,tag_load2,tag_load,tag_fold,List.drop_zero,List.all_cons,List.all_nil,ti3,ti5,ti49,ti25,ti23,hb4,hb8,hb13,hb19,hb32,decide_true,decide_false]
            refine hN37 _ ?_; try clear hN37 hD37 N37
            refine WC_condE ?_
            simp only [sS,↓sT,if_true,if_false,Nat.reduceLT,Nat.reduceEqDiff,↓stepC_bool,hb4,hb8,hb13,hb19,hb32,Int.reduceBEq,Int.reduceBNe,beq_self_eq_true,bne_self_eq_false]
            refine ⟨fun hb38 => ?_,fun hb38 => ?_⟩
            · have hj2 : j < X.length := by have := of_decide_eq_true hb38; omega
              obtain ⟨o,ho⟩ : ∃ o,X[j]? = some o := ⟨_,List.getElem?_eq_getElem hj2⟩
              have hj := hXS.ia ho
              have hwj : IntKind.i64.wrap ((j : Int) + 1) = (j : Int) + 1 := wrapI (by omega) (by omega)
              have hpo : (partL Ls (haveL Q) 6)[j]? = some o := by
                rw [hXt,List.getElem?_take] at ho
                split at ho
                · exact ho
                · cases ho
              have hhd : partL Ls (haveL R) 6 = o :: (partL Ls (haveL Q) 6).drop (j + 1) := by
                rw [hRX]
                obtain ⟨h1,h2⟩ := List.getElem?_eq_some_iff.1 hpo
                rw [List.drop_eq_getElem_cons h1,h2]
              obtain ⟨h0,hof,hS',hX'⟩ := head_put hR hS (by have := hP.t; omega) hhd
              refine WC_skip ?_
              refine hN36 _ ?_; try clear hN36 hD36 N36
              refine WC_seqN (fun N39 hN39 hD39 => ?_)
              refine WC_block ?_
              refine WC_seqR (fun N40 hN40 hD40 => ?_)
              simp only [sS,↓sT,if_true,if_false,Nat.reduceLT,Nat.reduceEqDiff,↓sO,↓WOps_g,sG,opV,loudV,cellsOf,strOp,evL,Nat.reduceAdd,beq_self_eq_true,bne_self_eq_false,Int.reduceBEq,Int.reduceBNe,ti52,ti49,hve,hsl,hxl,hi,hj,hwt,hwi,hwj,hw1,hw2,hz8,convV,vec_cells,all_ints,(vec_load hv),cat_at,cat_set,wr15,op_isC,op_full,op_len,op_cells,opCells,icell_int,icell_str,icell_bool,dropsW_isC,Bool.and_self,load15,load_int,tag_load2,tag_load,tag_fold,List.drop_zero,List.all_cons,List.all_nil,ti3,ti5,ti49,ti25,ti23,hb4,hb8,hb13,hb19,hb32,hb38,decide_true,decide_false]
              refine WOps_put (b := 2) (o := o) hP (by omega) (of_drops hF.e hof) (by simp only [ev_func]) (by first | (simp only [evL,sS,↓sT,if_true,if_false,Nat.reduceLT,Nat.reduceEqDiff]; done) | (simp only [evL,sS,↓sT,if_true,if_false,Nat.reduceLT,Nat.reduceEqDiff]; rfl)) rfl (fun es' ow' n' hP' => ?_)
              rw [h0]
              replace hP' := hP'.sub hR hS' hm60
              simp only [sS,↓sT,if_true,if_false,Nat.reduceLT,Nat.reduceEqDiff,↓sO,↓WOps_g,sG,opV,loudV,cellsOf,strOp,evL,Nat.reduceAdd,beq_self_eq_true,bne_self_eq_false,Int.reduceBEq,Int.reduceBNe,ti52,ti49,hve,hsl,hxl,hi,hj,hwt,hwi,hwj,hw1,hw2,hz8,convV,vec_cells,all_ints,(vec_load hv),cat_at,cat_set,wr15,op_isC,op_full,op_len,op_cells,opCells,icell_int,icell_str,icell_bool,dropsW_isC,Bool.and_self,load15,load_int,tag_load2,tag_load,tag_fold,List.drop_zero,List.all_cons,List.all_nil,ti3,ti5,ti49,ti25,ti23,hb4,hb8,hb13,hb19,hb32,hb38,decide_true,decide_false]
              refine hN40 _ ?_; try clear hN40 hD40 N40
              refine WC_condE ?_
              simp only [sS,↓sT,if_true,if_false,Nat.reduceLT,Nat.reduceEqDiff,↓stepC_bool,hb4,hb8,hb13,hb19,hb32,hb38,Int.reduceBEq,Int.reduceBNe,beq_self_eq_true,bne_self_eq_false]
              refine ⟨fun hb41 => ?_,fun hb41 => ?_⟩
              · exact absurd hb41 (by simp)
              · refine WC_skip ?_
                refine hN39 _ ?_; try clear hN39 hD39 N39
                refine WC_regN (fun N42 hN42 => ?_)
                simp only [sS,↓sT,if_true,if_false,Nat.reduceLT,Nat.reduceEqDiff,↓sO,↓WOps_g,sG,opV,loudV,cellsOf,strOp,evL,Nat.reduceAdd,beq_self_eq_true,bne_self_eq_false,Int.reduceBEq,Int.reduceBNe,hve,hsl,hxl,hi,hj,hwt,hwi,hwj,hw1,hw2,hz8,convV,vec_cells,all_ints,(vec_load hv),cat_at,cat_set,wr15,op_isC,op_full,op_len,op_cells,opCells,icell_int,icell_str,icell_bool,dropsW_isC,Bool.and_self,load15,load_int,tag_load2,tag_load,tag_fold,List.drop_zero,List.all_cons,List.all_nil,ti3,ti5,ti49,ti25,ti23,hb4,hb8,hb13,hb19,hb32,hb38,hb41,decide_true,decide_false]
                refine hN42 _ ?_; try clear hN42 N42
                exact ⟨j + 1,⟨_,putL R o,es',ow',_,rfl,⟨rfl,rfl,rfl,rfl,rfl,rfl,trivial⟩,hj2,hS',hP',hX'⟩,by omega⟩
            · have hj2 : j = X.length := by have := of_decide_eq_false hb38; omega
              refine WC_exit ?_
              refine hN33 _ ?_; try clear hN33 hD33 N33
              refine WC_regN (fun N43 hN43 => ?_)
              simp only [sS,↓sT,if_true,if_false,Nat.reduceLT,Nat.reduceEqDiff,↓sO,↓WOps_g,sG,opV,loudV,cellsOf,strOp,evL,Nat.reduceAdd,beq_self_eq_true,bne_self_eq_false,Int.reduceBEq,Int.reduceBNe,hve,hsl,hxl,hi,hj,hwt,hwi,hwj,hw1,hw2,hz8,convV,vec_cells,all_ints,(vec_load hv),cat_at,cat_set,wr15,op_isC,op_full,op_len,op_cells,opCells,icell_int,icell_str,icell_bool,dropsW_isC,Bool.and_self,load15,load_int,tag_load2,tag_load,tag_fold,List.drop_zero,List.all_cons,List.all_nil,ti3,ti5,ti49,ti25,ti23,hb4,hb8,hb13,hb19,hb32,hb38,decide_true,decide_false]
              refine hN43 _ ?_; try clear hN43 N43
              refine ⟨i + 1,⟨_,R,es,ow,_,rfl,⟨rfl,rfl,rfl,rfl,trivial⟩,hi7,hS,hP, ?_⟩,by omega⟩
              rw [hRX,List.length_drop]; omega
          · have hi7 : i = 61 := by have := of_decide_eq_false hb32; omega
            have hXn : partL Ls (haveL Q) 6 = [] := List.eq_nil_of_length_eq_zero (by omega)
            have hQL := all_there hR hS hXn
            subst hQL
            refine WC_bare (b := 2) (cs := es) rfl ?_
            have hQb := hP.p.bareW
            have hQ0 := bareW_toks hP.p
            have hQd := hP.d
            have hQl := hP.lens (by omega)
            clear hP hX hXn
            generalize es.map V.bareC = fs at hQb hQ0
            have hSb := (opsV_PS (sinceL Q zeroV 400)).bare
            have hSn := (opsV_PS (sinceL Q zeroV 400)).noP
            have hve := vec_eq (a := haveL Q) (b := haveL Q) hQb.bare.len hQb.bare.len
            have cS := c_punnet_punnetref20_SameOps _ _ _ _ (opsV_PS (sinceL Q zeroV 400)) (opsV_PS (sinceL Q zeroV 400)) (since_len _ _) (since_drops hQd)
            rw [sameOps_refl] at cS
            refine WC_exit ?_
            refine hN28 _ ?_; try clear hN28 hD28 N28
            refine WC_seqR (fun N44 hN44 hD44 => ?_)
            simp only [sS,↓sT,if_true,if_false,Nat.reduceLT,Nat.reduceEqDiff,↓sO,↓WOps_g,sG,opV,loudV,cellsOf,strOp,evL,Nat.reduceAdd,beq_self_eq_true,bne_self_eq_false,Int.reduceBEq,Int.reduceBNe,hve,hsl,hxl,hi,hj,hwt,hwi,hwj,hw1,hw2,hz8,convV,vec_cells,all_ints,(vec_load hv),cat_at,cat_set,wr15,op_isC,op_full,op_len,op_cells,opCells,icell_int,icell_str,icell_bool,dropsW_isC,Bool.and_self,load15,load_int,tag_load2,tag_load,tag_fold,List.drop_zero,List.all_cons,List.all_nil,ti3,ti5,ti49,ti25,ti23,hb4,hb8,hb13,hb19,hb32,decide_true,decide_false]
            refine WOps_opsB (b := 1) (cs := ds) hF.p hF.t hQd hQl (by simp only [ev_func]) (by first | (simp only [evL,sS,↓sT,if_true,if_false,Nat.reduceLT,Nat.reduceEqDiff]; done) | (simp only [evL,sS,↓sT,if_true,if_false,Nat.reduceLT,Nat.reduceEqDiff]; rfl)) rfl (fun ow' n' hsub => ?_)
            simp only [sS,↓sT,if_true,if_false,Nat.reduceLT,Nat.reduceEqDiff,↓sO,↓WOps_g,sG,opV,loudV,cellsOf,strOp,evL,Nat.reduceAdd,beq_self_eq_true,bne_self_eq_false,Int.reduceBEq,Int.reduceBNe,hve,hsl,hxl,hi,hj,hwt,hwi,hwj,hw1,hw2,hz8,convV,vec_cells,all_ints,(vec_load hv),cat_at,cat_set,wr15,op_isC,op_full,op_len,op_cells,opCells,icell_int,icell_str,icell_bool,dropsW_isC,Bool.and_self,load15,load_int,tag_load2,tag_load,tag_fold,List.drop_zero,List.all_cons,List.all_nil,ti3,ti5,ti49,ti25,ti23,hb4,hb8,hb13,hb19,hb32,decide_true,decide_false]
            refine WOps_opsB (b := 2) (cs := fs) hQb hQ0 hQd hQl (by simp only [ev_func]) (by first | (simp only [evL,sS,↓sT,if_true,if_false,Nat.reduceLT,Nat.reduceEqDiff]; done) | (simp only [evL,sS,↓sT,if_true,if_false,Nat.reduceLT,Nat.reduceEqDiff]; rfl)) rfl (fun ow' n' hsub => ?_)
            simp only [sS,↓sT,if_true,if_false,Nat.reduceLT,Nat.reduceEqDiff,↓sO,↓WOps_g,sG,opV,loudV,cellsOf,strOp,evL,Nat.reduceAdd,beq_self_eq_true,bne_self_eq_false,Int.reduceBEq,Int.reduceBNe,hve,hsl,hxl,hi,hj,hwt,hwi,hwj,hw1,hw2,hz8,convV,vec_cells,all_ints,(vec_load hv),cat_at,cat_set,wr15,op_isC,op_full,op_len,op_cells,opCells,icell_int,icell_str,icell_bool,dropsW_isC,Bool.and_self,load15,load_int,tag_load2,tag_load,tag_fold,List.drop_zero,List.all_cons,List.all_nil,ti3,ti5,ti49,ti25,ti23,hb4,hb8,hb13,hb19,hb32,decide_true,decide_false]
            refine WOps_callP cS (by simp only [ev_func]) (by simp only [evL,sS,↓sT,if_true,if_false,Nat.reduceLT,Nat.reduceEqDiff]; rfl) (by simp only [List.map_cons,List.map_nil,hSb]) (by simp [hSn]) rfl rfl ?_
            simp only [sS,↓sT,if_true,if_false,Nat.reduceLT,Nat.reduceEqDiff,↓sO,↓WOps_g,sG,opV,loudV,cellsOf,strOp,evL,Nat.reduceAdd,beq_self_eq_true,bne_self_eq_false,Int.reduceBEq,Int.reduceBNe,hve,hsl,hxl,hi,hj,hwt,hwi,hwj,hw1,hw2,hz8,convV,vec_cells,all_ints,(vec_load hv),cat_at,cat_set,wr15,op_isC,op_full,op_len,op_cells,opCells,icell_int,icell_str,icell_bool,dropsW_isC,Bool.and_self,load15,load_int,tag_load2,tag_load,tag_fold,List.drop_zero,List.all_cons,List.all_nil,ti3,ti5,ti49,ti25,ti23,hb4,hb8,hb13,hb19,hb32,decide_true,decide_false]
            refine WOps_callL (c_have hF.p.bare) (by simp only [ev_func]) (by first | (simp only [evL,sS,↓sT,if_true,if_false,Nat.reduceLT,Nat.reduceEqDiff]; done) | (simp only [evL,sS,↓sT,if_true,if_false,Nat.reduceLT,Nat.reduceEqDiff]; rfl)) (hF.p.lentAt (b := 1) rfl) (vec_pl _) ?_
            simp only [sS,↓sT,if_true,if_false,Nat.reduceLT,Nat.reduceEqDiff,↓sO,↓WOps_g,sG,opV,loudV,cellsOf,strOp,evL,Nat.reduceAdd,beq_self_eq_true,bne_self_eq_false,Int.reduceBEq,Int.reduceBNe,hve,hsl,hxl,hi,hj,hwt,hwi,hwj,hw1,hw2,hz8,convV,vec_cells,all_ints,(vec_load hv),cat_at,cat_set,wr15,op_isC,op_full,op_len,op_cells,opCells,icell_int,icell_str,icell_bool,dropsW_isC,Bool.and_self,load15,load_int,tag_load2,tag_load,tag_fold,List.drop_zero,List.all_cons,List.all_nil,ti3,ti5,ti49,ti25,ti23,hb4,hb8,hb13,hb19,hb32,decide_true,decide_false]
            refine WOps_callL (c_have hQb.bare) (by simp only [ev_func]) (by first | (simp only [evL,sS,↓sT,if_true,if_false,Nat.reduceLT,Nat.reduceEqDiff]; done) | (simp only [evL,sS,↓sT,if_true,if_false,Nat.reduceLT,Nat.reduceEqDiff]; rfl)) (hQb.lentAt (b := 2) rfl) (vec_pl _) ?_
            simp only [sS,↓sT,if_true,if_false,Nat.reduceLT,Nat.reduceEqDiff,↓sO,↓WOps_g,sG,opV,loudV,cellsOf,strOp,evL,Nat.reduceAdd,beq_self_eq_true,bne_self_eq_false,Int.reduceBEq,Int.reduceBNe,hve,hsl,hxl,hi,hj,hwt,hwi,hwj,hw1,hw2,hz8,convV,vec_cells,all_ints,(vec_load hv),cat_at,cat_set,wr15,op_isC,op_full,op_len,op_cells,opCells,icell_int,icell_str,icell_bool,dropsW_isC,Bool.and_self,load15,load_int,tag_load2,tag_load,tag_fold,List.drop_zero,List.all_cons,List.all_nil,ti3,ti5,ti49,ti25,ti23,hb4,hb8,hb13,hb19,hb32,decide_true,decide_false]
            refine hN44 _ ?_; try clear hN44 hD44 N44
            refine WC_ret ?_; (try simp only [Exit.after,Exit.out]); refine Kend_ret (by simp only [resOf,resL,resV,mkS_get,slots_get,cellsOf,load_str,load_bool,load_int,load_slice,ti3,sS,↓sT,if_true,if_false,Nat.reduceLT,Nat.reduceEqDiff]; rfl) (by first | rfl | (simp only [load_str,load_bool,load_int,load_slice,ti3]; done) | (simp only [load_str,load_bool,load_int,load_slice,ti3,okV,ok1,okC,okP,List.all_cons,List.all_nil,Bool.and_true]; done)) ?_
            clear hN30 hD30 N30 hN18 hD18 N18
            first
            | rfl
            | (cases hb4; done)
end Go.PV
/- PoolCatches: from the walk to the row. -/
namespace Go.Proofs.Ytpgfcfojojemjaa.poolCatches
open Go.ChangeShapes Go.WideShapes Go.ChangeAt Go.RowKit Go.PV
theorem own : ownKnob Try.prog.godebug = none := by kernel_rfl
theorem laidOut : laidOutB Try.prog = true := by kernel_rfl
set_option maxRecDepth 100000 in
theorem lifted (os : Os) (started : os.Started) (H : Type) (enc : TypeId × Value → H) :
    ReturnsInHanded {} Try.checked os 8 .any (Rows.poolCatchesSpec.pre6 enc Try.prog Try.f8 Rows.poolCatchesRow.domain false) (Rows.poolCatchesSpec.post enc Try.prog Try.f8 false true false false) := by
  refine returnsInHanded_of_change_sized (C := Try.checked) own started (by kernel_rfl) Try.func8
    (ChangeSpec.witness6 (enc := enc) (C := Try.checked) false ⟨#[], #[.slice none 0 0, .agg #[.int .i64 0, .int .i64 0, .int .i64 0, .int .i64 0, .int .i64 0, .int .i64 0], .int .u8 0], []⟩ 8 (by kernel_rfl) (by kernel_rfl) (by kernel_rfl) (by kernel_rfl)) ?_
  intro W base args ds gs before hval0 hW hcnd hsz0 _
  have hval : ∀ (j : Nat) t v,Try.f8.params[j]? = some t → args[j]? = some v → Value.okWide Try.prog W .any base t v := hval0
  have hW' := hW
  obtain ⟨p,q,hA0,hV,rfl,hfz,hnd⟩ := hW
  have hA : DataW.TrodAll enc Try.prog W 0 (fun _ => true) true Try.f8.params.toList args.toList ds p := hA0
  rw [Try.params8] at hA hval
  obtain ⟨v0,vs0,d0,ds0,p0,q0,hargs,rfl,rfl,h0,r0⟩ := trodAll_cons hA
  obtain ⟨v1,vs1,d1,ds1,p1,q1,rfl,rfl,rfl,h1,r1⟩ := trodAll_cons r0
  obtain ⟨v2,vs2,d2,ds2,p2,q2,rfl,rfl,rfl,h2,r2⟩ := trodAll_cons r1
  obtain ⟨rfl,rfl,rfl⟩ := trodAll_nil r2
  obtain rfl : args = #[v0,v1,v2] := by cases args; simp_all
  obtain ⟨rfl,rfl⟩ := trodVars_none hV
  have lt0 : ∀ x ∈ p0,x.block < W.heap.size := by obtain ⟨m,hm⟩ := h0; exact DataW.trod_lt m _ _ _ hm
  have lt1 : ∀ x ∈ p1,x.block < W.heap.size := by obtain ⟨m,hm⟩ := h1; exact DataW.trod_lt m _ _ _ hm
  have lt2 : ∀ x ∈ p2,x.block < W.heap.size := by obtain ⟨m,hm⟩ := h2; exact DataW.trod_lt m _ _ _ hm
  have k0 := h0
  obtain ⟨a0,w0,e0⟩ := arg_ops (hval 0 _ v0 rfl rfl) h0
  have k1 := h1
  obtain ⟨a1,w1,e1⟩ := arg_agg so_vec (.inr ⟨_,_,Try.underlying23⟩) (hval 1 _ v1 rfl rfl) h1
  have k2 := h2
  obtain ⟨a2,rfl,rfl,rfl,w2⟩ := open_int Try.underlying5 (hval 2 _ v2 rfl rfl) h2
  clear hA0 hval0 hsz0
  refine (calls_end (c_punnet_punnetlaw26_PoolCatches a0.1 a0.2 w0.1 w0.2 a1 w1 a2 (by have h := w2; simp only [Lit.wf,Bool.and_eq_true,decide_eq_true_eq] at h; exact h)) ⟨rfl,fun k y hk => ?_⟩ (by simp only [ownOf,List.flatMap_cons,List.flatMap_nil,w0.1.toks,vec_toks,List.append_nil]; rfl)).mono fun e W' ⟨he,bel⟩ => ?_
  · match k,hk with
    | 0,hk => obtain rfl := Option.some.inj hk; exact e0
    | 1,hk => obtain rfl := Option.some.inj hk; exact e1
    | 2,hk => obtain rfl := Option.some.inj hk; exact .int _ _
    | k + 3,hk => simp at hk
  subst he
  exact ⟨_,rfl,_,_,_, [],_, [],hW',trodAll_mk1 (shut_bool Try.underlying4 _),
    (trodAll_cons_mk (Below.trod laidOut (by kernel_rfl) (of_decide_eq_true (by kernel_rfl)) k0 bel lt0) (trodAll_cons_mk (Below.trod laidOut (by kernel_rfl) (of_decide_eq_true (by kernel_rfl)) k1 bel lt1) (trodAll_cons_mk (Below.trod laidOut (by kernel_rfl) (of_decide_eq_true (by kernel_rfl)) k2 bel lt2) trodAll_mk0))),rfl,bel.frame _,fun h => by cases h⟩
end Go.Proofs.Ytpgfcfojojemjaa.poolCatches
